/- The formulas of some functions, and that each is what its code comes to. Written by a program of ours. -/
import Derived.Test.YtcjcbokgcgmegaaVcO
import Derived.Test.YtcjcbokgcgmegaaNm
import Derived.Test.YtcjcbokgcgmegaaProg
import Derived.KernelRfl
set_option linter.unusedVariables false
set_option maxRecDepth 100000
namespace Go.Proofs.Ytcjcbokgcgmegaa
open Go Go.Vc Go.Proofs

/- rolodex/rolodexref07.New -/
def A_ref07_New : Ann := { qs := [8, 9, 12, 13, 15, 17, 18, 19, 22, 23, 24, 26, 31], loops := [(3, [(4, (.int .i64))])], plans := [(5, (.take 0 (.take 1 (.take 2 (.take 3 (.take 4 (.alt 5 (.alt 6 (.alt 7 (.take 8 (.take 9 (.alt 10 .done .stop))) .stop) .stop) .stop)))))))] }
def F_ref07_New (pages : Int) (h : Heap) (R : Value → Heap → Prop) : Prop :=
  newBlk h (51 : Nat) #[Value.slice none (0 : Nat) (0 : Nat), Value.slice none (0 : Nat) (0 : Nat), Value.int IntKind.i64 (-1 : Int), Value.bool false] fun (b0 : Nat) (h1 : Heap) =>
  ∃ (I2 : Int → Heap → Prop),
    ∃ (μ3 : Int → Heap → Nat),
      I2 (0 : Int) h1 ∧
        ∀ (n4 : Int) (h5 : Heap),
          I2 n4 h5 →
            br (decide (n4 < pages))
              (∃ (p6 : Option Addr),
                ∃ (l7 : Nat),
                  ∃ (c8 : Nat),
                    cell h5 (Addr.add (Addr.mk b0 (0 : Nat) none) (0 : Nat)) = some (Value.slice p6 l7 c8) ∧
                      makeP (5 : Nat) (1 : Nat) (1 : Nat) #[Value.int IntKind.u8 (0 : Int)] (128 : Int) (128 : Int) h5 fun (b9 : Nat) (h10 : Heap) =>
                        newBlk h10 (22 : Nat) #[Value.slice (some (Addr.mk b9 (0 : Nat) none)) (128 : Nat) (128 : Nat)] fun (b11 : Nat) (h12 : Heap) =>
                          appendP (22 : Nat) (1 : Nat) (24 : Nat) #[Value.slice none (0 : Nat) (0 : Nat)] p6 l7 c8 (some (Addr.mk b11 (0 : Nat) none)) (1 : Nat) h12
                            fun (p13 : Option Addr) (l14 c15 : Nat) (h16 : Heap) =>
                            storeP none h16 (Addr.mk b0 (0 : Nat) none) (Value.slice p13 l14 c15) fun (h17 : Heap) =>
                              I2 (IntKind.wrap IntKind.i64 (n4 + (1 : Int))) h17 ∧ μ3 (IntKind.wrap IntKind.i64 (n4 + (1 : Int))) h17 < μ3 n4 h5)
              (R (Value.pointer (some (Addr.mk b0 (0 : Nat) none))) h5)
theorem C_ref07_New (pages : Int) {h : Heap} {R : Value → Heap → Prop} (H : F_ref07_New pages h R) : CallsH Try.prog n_ref07_New [(.int .i64 pages)].toArray h R :=
  fn_sound (A := A_ref07_New) (Eq.mp (by kernel_rfl : F_ref07_New pages h R = fnVc Go.Proofs.Try.prog A_ref07_New 18 [(.int .i64 pages)] h R) H)

/- (*rolodex/rolodexref07.Device).operation -/
def A_ref07_Device_operation : Ann := { qs := [8, 9, 12, 13, 15, 17, 18, 19, 22, 23, 24, 26, 31] }
def F_ref07_Device_operation (d : Option Addr) (h : Heap) (R : Value → Heap → Prop) : Prop :=
  deref d fun (a0 : Addr) =>
  ∃ (n1 : Int),
    cell h (Addr.add a0 (2 : Nat)) = some (Value.int IntKind.i64 n1) ∧
      br (n1 == (0 : Int)) (deref d fun (a2 : Addr) => storeP none h (Addr.mk (Addr.block a2) (Addr.off a2 + (3 : Nat)) none) (Value.bool true) fun (h3 : Heap) => R (Value.bool false) h3)
        (deref d fun (a4 : Addr) =>
          ∃ (n5 : Int),
            cell h (Addr.add a4 (2 : Nat)) = some (Value.int IntKind.i64 n5) ∧
              br (decide (n5 > (0 : Int)))
                (deref d fun (a6 : Addr) =>
                  ∃ (n7 : Int),
                    cell h (Addr.add a6 (2 : Nat)) = some (Value.int IntKind.i64 n7) ∧
                      deref d fun (a8 : Addr) =>
                        storeP none h (Addr.mk (Addr.block a8) (Addr.off a8 + (2 : Nat)) none) (Value.int IntKind.i64 (IntKind.wrap IntKind.i64 (n7 - (1 : Int)))) fun (h9 : Heap) =>
                          R (Value.bool true) h9)
                (R (Value.bool true) h))
theorem C_ref07_Device_operation (d : Option Addr) {h : Heap} {R : Value → Heap → Prop} (H : F_ref07_Device_operation d h R) : CallsH Try.prog n_ref07_Device_operation [(.pointer d)].toArray h R :=
  fn_sound (A := A_ref07_Device_operation) (Eq.mp (by kernel_rfl : F_ref07_Device_operation d h R = fnVc Go.Proofs.Try.prog A_ref07_Device_operation 30 [(.pointer d)] h R) H)

/- (*rolodex/rolodexref07.Device).Read -/
def A_ref07_Device_Read : Ann := { qs := [8, 9, 12, 13, 15, 17, 18, 19, 22, 23, 24, 26, 31], loops := [(6, [(6, (.int .i64))])] }
def F_ref07_Device_Read (d : Option Addr) (i : Int) (h : Heap) (R : Value → Heap → Prop) : Prop :=
  deref d fun (a0 : Addr) =>
  ∃ (t1 : Bool),
    cell h (Addr.add a0 (3 : Nat)) = some (Value.bool t1) ∧
      br t1 (R (Value.tuple #[Value.slice none (0 : Nat) (0 : Nat), Value.int IntKind.i64 (6 : Int)]) h)
        (br (decide (i < (0 : Int))) (R (Value.tuple #[Value.slice none (0 : Nat) (0 : Nat), Value.int IntKind.i64 (4 : Int)]) h)
          (deref d fun (a2 : Addr) =>
            ∃ (p3 : Option Addr),
              ∃ (l4 : Nat),
                ∃ (c5 : Nat),
                  cell h (Addr.add a2 (0 : Nat)) = some (Value.slice p3 l4 c5) ∧
                    br (decide (i ≥ (↑l4 : Int))) (R (Value.tuple #[Value.slice none (0 : Nat) (0 : Nat), Value.int IntKind.i64 (4 : Int)]) h)
                      (deref d fun (a6 : Addr) =>
                        ∃ (p7 : Option Addr),
                          ∃ (l8 : Nat),
                            ∃ (c9 : Nat),
                              cell h (Addr.add a6 (1 : Nat)) = some (Value.slice p7 l8 c9) ∧
                                ∃ (I10 : Int → Heap → Prop),
                                  ∃ (μ11 : Int → Heap → Nat),
                                    I10 (IntKind.wrap IntKind.i64 ((↑l8 : Int) - (1 : Int))) h ∧
                                      ∀ (n12 : Int) (h13 : Heap),
                                        I10 n12 h13 →
                                          br (decide (n12 ≥ (0 : Int)))
                                            (deref d fun (a14 : Addr) =>
                                              ∃ (p15 : Option Addr),
                                                ∃ (l16 : Nat),
                                                  ∃ (c17 : Nat),
                                                    cell h13 (Addr.add a14 (1 : Nat)) = some (Value.slice p15 l16 c17) ∧
                                                      (0 : Int) ≤ n12 ∧
                                                        n12 < (↑l16 : Int) ∧
                                                          deref p15 fun (a18 : Addr) =>
                                                            ∃ (n19 : Int),
                                                              cell h13 (Addr.add (Addr.add a18 (Int.toNat n12 * (2 : Nat))) (0 : Nat)) = some (Value.int IntKind.i64 n19) ∧
                                                                br (n19 == i)
                                                                  (deref d fun (a20 : Addr) =>
                                                                    ∃ (p21 : Option Addr),
                                                                      ∃ (l22 : Nat),
                                                                        ∃ (c23 : Nat),
                                                                          cell h13 (Addr.add a20 (1 : Nat)) = some (Value.slice p21 l22 c23) ∧
                                                                            (0 : Int) ≤ n12 ∧
                                                                              n12 < (↑l22 : Int) ∧
                                                                                deref p21 fun (a24 : Addr) =>
                                                                                  ∃ (p25 : Option Addr),
                                                                                    ∃ (l26 : Nat),
                                                                                      ∃ (c27 : Nat),
                                                                                        cell h13 (Addr.add (Addr.add a24 (Int.toNat n12 * (2 : Nat))) (1 : Nat)) = some (Value.slice p25 l26 c27) ∧
                                                                                          R (Value.tuple #[Value.slice p25 l26 c27, Value.int IntKind.i64 (0 : Int)]) h13)
                                                                  (I10 (IntKind.wrap IntKind.i64 (n12 - (1 : Int))) h13 ∧ μ11 (IntKind.wrap IntKind.i64 (n12 - (1 : Int))) h13 < μ11 n12 h13))
                                            (deref d fun (a28 : Addr) =>
                                              ∃ (p29 : Option Addr),
                                                ∃ (l30 : Nat),
                                                  ∃ (c31 : Nat),
                                                    cell h13 (Addr.add a28 (0 : Nat)) = some (Value.slice p29 l30 c31) ∧
                                                      (0 : Int) ≤ i ∧
                                                        i < (↑l30 : Int) ∧
                                                          deref p29 fun (a32 : Addr) =>
                                                            ∃ (p33 : Option Addr),
                                                              ∃ (l34 : Nat),
                                                                ∃ (c35 : Nat),
                                                                  cell h13 (Addr.add a32 (Int.toNat i * (1 : Nat))) = some (Value.slice p33 l34 c35) ∧
                                                                    R (Value.tuple #[Value.slice p33 l34 c35, Value.int IntKind.i64 (0 : Int)]) h13))))
theorem C_ref07_Device_Read (d : Option Addr) (i : Int) {h : Heap} {R : Value → Heap → Prop} (H : F_ref07_Device_Read d i h R) : CallsH Try.prog n_ref07_Device_Read [(.pointer d), (.int .i64 i)].toArray h R :=
  fn_sound (A := A_ref07_Device_Read) (Eq.mp (by kernel_rfl : F_ref07_Device_Read d i h R = fnVc Go.Proofs.Try.prog A_ref07_Device_Read 23 [(.pointer d), (.int .i64 i)] h R) H)

/- (*rolodex/rolodexref07.Device).Write -/
def A_ref07_Device_Write : Ann := { qs := [8, 9, 12, 13, 15, 17, 18, 19, 22, 23, 24, 26, 31] }
def F_ref07_Device_Write (d : Option Addr) (i : Int) (b : Option Addr) (b_l : Nat) (b_c : Nat) (h : Heap) (R : Value → Heap → Prop) : Prop :=
  deref d fun (a0 : Addr) =>
  ∃ (t1 : Bool),
    cell h (Addr.add a0 (3 : Nat)) = some (Value.bool t1) ∧
      br t1 (R (Value.int IntKind.i64 (6 : Int)) h)
        (br (decide (i < (0 : Int))) (R (Value.int IntKind.i64 (4 : Int)) h)
          (deref d fun (a2 : Addr) =>
            ∃ (p3 : Option Addr),
              ∃ (l4 : Nat),
                ∃ (c5 : Nat),
                  cell h (Addr.add a2 (0 : Nat)) = some (Value.slice p3 l4 c5) ∧
                    br (decide (i ≥ (↑l4 : Int))) (R (Value.int IntKind.i64 (4 : Int)) h)
                      (br ((↑b_l : Int) != (128 : Int)) (R (Value.int IntKind.i64 (1 : Int)) h)
                        (CallsH Try.prog n_ref07_Device_operation #[Value.pointer d] h fun (v6 : Value) (h7 : Heap) =>
                          ∃ (t8 : Bool),
                            v6 = Value.bool t8 ∧
                              br (!t8) (R (Value.int IntKind.i64 (6 : Int)) h7)
                                (appendP (5 : Nat) (1 : Nat) (1 : Nat) #[Value.int IntKind.u8 (0 : Int)] none (0 : Nat) (0 : Nat) b b_l h7 fun (p9 : Option Addr) (l10 c11 : Nat) (h12 : Heap) =>
                                  deref d fun (a13 : Addr) =>
                                    ∃ (p14 : Option Addr),
                                      ∃ (l15 : Nat),
                                        ∃ (c16 : Nat),
                                          cell h12 (Addr.add a13 (1 : Nat)) = some (Value.slice p14 l15 c16) ∧
                                            Array.size
                                                  (List.toArray
                                                    (flat
                                                      (setAt
                                                        (setAt
                                                          (chunk
                                                            (List.map (fun (x : Nat × Nat) => Prod.snd x)
                                                              (List.map (fun (f : Field) => (Field.offset f, szOf Try.prog (Field.type f)))
                                                                (Array.toList #[Field.mk "At" (3 : Nat) (0 : Nat) false "" "" (0 : Nat), Field.mk "B" (22 : Nat) (1 : Nat) false "" "" (8 : Nat)])))
                                                            (Array.toList (Value.cells (Value.agg #[Value.int IntKind.i64 (0 : Int), Value.slice none (0 : Nat) (0 : Nat)]))))
                                                          (0 : Nat) [Value.int IntKind.i64 i])
                                                        (1 : Nat) [Value.slice p9 l10 c11]))) =
                                                (2 : Nat) ∧
                                              newBlk h12 (66 : Nat) #[Value.int IntKind.i64 i, Value.slice p9 l10 c11] fun (b17 : Nat) (h18 : Heap) =>
                                                appendP (66 : Nat) (2 : Nat) (32 : Nat) #[Value.int IntKind.i64 (0 : Int), Value.slice none (0 : Nat) (0 : Nat)] p14 l15 c16
                                                  (some (Addr.mk b17 (0 : Nat) none)) (1 : Nat) h18 fun (p19 : Option Addr) (l20 c21 : Nat) (h22 : Heap) =>
                                                  deref d fun (a23 : Addr) =>
                                                    storeP none h22 (Addr.mk (Addr.block a23) (Addr.off a23 + (1 : Nat)) none) (Value.slice p19 l20 c21) fun (h24 : Heap) =>
                                                      R (Value.int IntKind.i64 (0 : Int)) h24)))))
theorem C_ref07_Device_Write (d : Option Addr) (i : Int) (b : Option Addr) (b_l : Nat) (b_c : Nat) {h : Heap} {R : Value → Heap → Prop} (H : F_ref07_Device_Write d i b b_l b_c h R) : CallsH Try.prog n_ref07_Device_Write [(.pointer d), (.int .i64 i), (.slice b b_l b_c)].toArray h R :=
  fn_sound (A := A_ref07_Device_Write) (Eq.mp (by kernel_rfl : F_ref07_Device_Write d i b b_l b_c h R = fnVc Go.Proofs.Try.prog A_ref07_Device_Write 27 [(.pointer d), (.int .i64 i), (.slice b b_l b_c)] h R) H)

/- (*rolodex/rolodexref07.Device).Flush -/
def A_ref07_Device_Flush : Ann := { qs := [8, 9, 12, 13, 15, 17, 18, 19, 22, 23, 24, 26, 31], loops := [(4, [(3, (.int .i64))])], plans := [(6, (.take 0 (.take 1 (.take 2 (.take 3 (.take 4 (.take 5 (.take 6 (.take 7 (.take 8 (.take 9 (.take 10 (.take 11 (.take 12 (.take 13 (.take 14 (.take 15 (.take 16 (.take 17 (.take 18 (.take 19 (.take 20 (.alt 21 .done .stop)))))))))))))))))))))))] }
def F_ref07_Device_Flush (d : Option Addr) (h : Heap) (R : Value → Heap → Prop) : Prop :=
  deref d fun (a0 : Addr) =>
  ∃ (t1 : Bool),
    cell h (Addr.add a0 (3 : Nat)) = some (Value.bool t1) ∧
      br t1 (R (Value.int IntKind.i64 (6 : Int)) h)
        (CallsH Try.prog n_ref07_Device_operation #[Value.pointer d] h fun (v2 : Value) (h3 : Heap) =>
          ∃ (t4 : Bool),
            v2 = Value.bool t4 ∧
              br (!t4) (R (Value.int IntKind.i64 (6 : Int)) h3)
                (∃ (I5 : Int → Heap → Prop),
                  ∃ (μ6 : Int → Heap → Nat),
                    I5 (0 : Int) h3 ∧
                      ∀ (n7 : Int) (h8 : Heap),
                        I5 n7 h8 →
                          deref d fun (a9 : Addr) =>
                            ∃ (p10 : Option Addr),
                              ∃ (l11 : Nat),
                                ∃ (c12 : Nat),
                                  cell h8 (Addr.add a9 (1 : Nat)) = some (Value.slice p10 l11 c12) ∧
                                    br (decide (n7 < (↑l11 : Int)))
                                      (deref d fun (a13 : Addr) =>
                                        ∃ (p14 : Option Addr),
                                          ∃ (l15 : Nat),
                                            ∃ (c16 : Nat),
                                              cell h8 (Addr.add a13 (0 : Nat)) = some (Value.slice p14 l15 c16) ∧
                                                deref d fun (a17 : Addr) =>
                                                  ∃ (p18 : Option Addr),
                                                    ∃ (l19 : Nat),
                                                      ∃ (c20 : Nat),
                                                        cell h8 (Addr.add a17 (1 : Nat)) = some (Value.slice p18 l19 c20) ∧
                                                          (0 : Int) ≤ n7 ∧
                                                            n7 < (↑l19 : Int) ∧
                                                              deref p18 fun (a21 : Addr) =>
                                                                ∃ (n22 : Int),
                                                                  cell h8 (Addr.add (Addr.add a21 (Int.toNat n7 * (2 : Nat))) (0 : Nat)) = some (Value.int IntKind.i64 n22) ∧
                                                                    deref d fun (a23 : Addr) =>
                                                                      ∃ (p24 : Option Addr),
                                                                        ∃ (l25 : Nat),
                                                                          ∃ (c26 : Nat),
                                                                            cell h8 (Addr.add a23 (1 : Nat)) = some (Value.slice p24 l25 c26) ∧
                                                                              (0 : Int) ≤ n7 ∧
                                                                                n7 < (↑l25 : Int) ∧
                                                                                  deref p24 fun (a27 : Addr) =>
                                                                                    ∃ (p28 : Option Addr),
                                                                                      ∃ (l29 : Nat),
                                                                                        ∃ (c30 : Nat),
                                                                                          cell h8 (Addr.add (Addr.add a27 (Int.toNat n7 * (2 : Nat))) (1 : Nat)) = some (Value.slice p28 l29 c30) ∧
                                                                                            (0 : Int) ≤ n22 ∧
                                                                                              n22 < (↑l15 : Int) ∧
                                                                                                deref p14 fun (a31 : Addr) =>
                                                                                                  storeP none h8 (Addr.add a31 (Int.toNat n22 * (1 : Nat))) (Value.slice p28 l29 c30)
                                                                                                    fun (h32 : Heap) =>
                                                                                                    I5 (IntKind.wrap IntKind.i64 (n7 + (1 : Int))) h32 ∧
                                                                                                      μ6 (IntKind.wrap IntKind.i64 (n7 + (1 : Int))) h32 < μ6 n7 h8)
                                      (deref d fun (a33 : Addr) =>
                                        storeP none h8 (Addr.mk (Addr.block a33) (Addr.off a33 + (1 : Nat)) none) (Value.slice none (0 : Nat) (0 : Nat)) fun (h34 : Heap) =>
                                          R (Value.int IntKind.i64 (0 : Int)) h34)))
theorem C_ref07_Device_Flush (d : Option Addr) {h : Heap} {R : Value → Heap → Prop} (H : F_ref07_Device_Flush d h R) : CallsH Try.prog n_ref07_Device_Flush [(.pointer d)].toArray h R :=
  fn_sound (A := A_ref07_Device_Flush) (Eq.mp (by kernel_rfl : F_ref07_Device_Flush d h R = fnVc Go.Proofs.Try.prog A_ref07_Device_Flush 28 [(.pointer d)] h R) H)

/- rolodex/rolodexref07.Mixed -/
def A_ref07_Mixed : Ann := { qs := [8, 9, 12, 13, 15, 17, 18, 19, 22, 23, 24, 26, 31], loops := [(3, [(7, .slice), (8, (.int .i64))])] }
def F_ref07_Mixed (was : Option Addr) (was_l : Nat) (was_c : Nat) (b : Option Addr) (b_l : Nat) (b_c : Nat) (t : Int) (h : Heap) (R : Value → Heap → Prop) : Prop :=
  ∃ (I0 : (Option Addr × Nat × Nat) × Int → Heap → Prop),
  ∃ (μ1 : (Option Addr × Nat × Nat) × Int → Heap → Nat),
    I0 ((none, (0 : Nat), (0 : Nat)), (0 : Int)) h ∧
      ∀ (s2 : (Option Addr × Nat × Nat) × Int) (h3 : Heap),
        I0 s2 h3 →
          br (decide (Prod.snd s2 < (↑was_l : Int)))
            (br (decide (Prod.snd s2 < t))
              ((0 : Int) ≤ Prod.snd s2 ∧
                Prod.snd s2 < (↑b_l : Int) ∧
                  deref b fun (a4 : Addr) =>
                    ∃ (n5 : Int),
                      cell h3 (Addr.add a4 (Int.toNat (Prod.snd s2) * (1 : Nat))) = some (Value.int IntKind.u8 n5) ∧
                        newBlk h3 (5 : Nat) #[Value.int IntKind.u8 n5] fun (b6 : Nat) (h7 : Heap) =>
                          appendP (5 : Nat) (1 : Nat) (1 : Nat) #[Value.int IntKind.u8 (0 : Int)] (Prod.fst (Prod.fst s2)) (Prod.fst (Prod.snd (Prod.fst s2))) (Prod.snd (Prod.snd (Prod.fst s2)))
                            (some (Addr.mk b6 (0 : Nat) none)) (1 : Nat) h7 fun (p8 : Option Addr) (l9 c10 : Nat) (h11 : Heap) =>
                            I0 ((p8, l9, c10), IntKind.wrap IntKind.i64 (Prod.snd s2 + (1 : Int))) h11 ∧ μ1 ((p8, l9, c10), IntKind.wrap IntKind.i64 (Prod.snd s2 + (1 : Int))) h11 < μ1 s2 h3)
              ((0 : Int) ≤ Prod.snd s2 ∧
                Prod.snd s2 < (↑was_l : Int) ∧
                  deref was fun (a12 : Addr) =>
                    ∃ (n13 : Int),
                      cell h3 (Addr.add a12 (Int.toNat (Prod.snd s2) * (1 : Nat))) = some (Value.int IntKind.u8 n13) ∧
                        newBlk h3 (5 : Nat) #[Value.int IntKind.u8 n13] fun (b14 : Nat) (h15 : Heap) =>
                          appendP (5 : Nat) (1 : Nat) (1 : Nat) #[Value.int IntKind.u8 (0 : Int)] (Prod.fst (Prod.fst s2)) (Prod.fst (Prod.snd (Prod.fst s2))) (Prod.snd (Prod.snd (Prod.fst s2)))
                            (some (Addr.mk b14 (0 : Nat) none)) (1 : Nat) h15 fun (p16 : Option Addr) (l17 c18 : Nat) (h19 : Heap) =>
                            I0 ((p16, l17, c18), IntKind.wrap IntKind.i64 (Prod.snd s2 + (1 : Int))) h19 ∧ μ1 ((p16, l17, c18), IntKind.wrap IntKind.i64 (Prod.snd s2 + (1 : Int))) h19 < μ1 s2 h3))
            (R (Value.slice (Prod.fst (Prod.fst s2)) (Prod.fst (Prod.snd (Prod.fst s2))) (Prod.snd (Prod.snd (Prod.fst s2)))) h3)
theorem C_ref07_Mixed (was : Option Addr) (was_l : Nat) (was_c : Nat) (b : Option Addr) (b_l : Nat) (b_c : Nat) (t : Int) {h : Heap} {R : Value → Heap → Prop} (H : F_ref07_Mixed was was_l was_c b b_l b_c t h R) : CallsH Try.prog n_ref07_Mixed [(.slice was was_l was_c), (.slice b b_l b_c), (.int .i64 t)].toArray h R :=
  fn_sound (A := A_ref07_Mixed) (Eq.mp (by kernel_rfl : F_ref07_Mixed was was_l was_c b b_l b_c t h R = fnVc Go.Proofs.Try.prog A_ref07_Mixed 31 [(.slice was was_l was_c), (.slice b b_l b_c), (.int .i64 t)] h R) H)

/- (*rolodex/rolodexref07.Device).Restart -/
def A_ref07_Device_Restart : Ann := { qs := [8, 9, 12, 13, 15, 17, 18, 19, 22, 23, 24, 26, 31], loops := [(1, [(4, (.int .i64))])], plans := [(7, (.take 0 (.take 1 (.take 2 (.take 3 (.take 4 (.take 5 (.take 6 (.take 7 (.take 8 (.take 9 (.take 10 (.take 11 (.take 12 (.take 13 (.take 14 (.take 15 (.take 16 (.take 17 (.take 18 (.take 19 (.take 20 (.alt 21 (.take 22 (.alt 23 .done .stop)) .stop)))))))))))))))))))))))] }
def F_ref07_Device_Restart (d : Option Addr) (list : Option Addr) (list_l : Nat) (list_c : Nat) (h : Heap) (R : Value → Heap → Prop) : Prop :=
  ∃ (I0 : Int → Heap → Prop),
  ∃ (μ1 : Int → Heap → Nat),
    I0 (0 : Int) h ∧
      ∀ (n2 : Int) (h3 : Heap),
        I0 n2 h3 →
          deref d fun (a4 : Addr) =>
            ∃ (p5 : Option Addr),
              ∃ (l6 : Nat),
                ∃ (c7 : Nat),
                  cell h3 (Addr.add a4 (1 : Nat)) = some (Value.slice p5 l6 c7) ∧
                    br (decide (n2 < (↑l6 : Int)))
                      (br (decide (n2 < (↑list_l : Int)))
                        ((0 : Int) ≤ n2 ∧
                          n2 < (↑list_l : Int) ∧
                            deref list fun (a8 : Addr) =>
                              ∃ (n9 : Int),
                                cell h3 (Addr.add a8 (Int.toNat n2 * (1 : Nat))) = some (Value.int IntKind.i64 n9) ∧
                                  deref d fun (a10 : Addr) =>
                                    ∃ (p11 : Option Addr),
                                      ∃ (l12 : Nat),
                                        ∃ (c13 : Nat),
                                          cell h3 (Addr.add a10 (1 : Nat)) = some (Value.slice p11 l12 c13) ∧
                                            (0 : Int) ≤ n2 ∧
                                              n2 < (↑l12 : Int) ∧
                                                deref p11 fun (a14 : Addr) =>
                                                  ∃ (n15 : Int),
                                                    cell h3 (Addr.add (Addr.add a14 (Int.toNat n2 * (2 : Nat))) (0 : Nat)) = some (Value.int IntKind.i64 n15) ∧
                                                      deref d fun (a16 : Addr) =>
                                                        ∃ (p17 : Option Addr),
                                                          ∃ (l18 : Nat),
                                                            ∃ (c19 : Nat),
                                                              cell h3 (Addr.add a16 (0 : Nat)) = some (Value.slice p17 l18 c19) ∧
                                                                deref d fun (a20 : Addr) =>
                                                                  ∃ (p21 : Option Addr),
                                                                    ∃ (l22 : Nat),
                                                                      ∃ (c23 : Nat),
                                                                        cell h3 (Addr.add a20 (0 : Nat)) = some (Value.slice p21 l22 c23) ∧
                                                                          (0 : Int) ≤ n15 ∧
                                                                            n15 < (↑l22 : Int) ∧
                                                                              deref p21 fun (a24 : Addr) =>
                                                                                ∃ (p25 : Option Addr),
                                                                                  ∃ (l26 : Nat),
                                                                                    ∃ (c27 : Nat),
                                                                                      cell h3 (Addr.add a24 (Int.toNat n15 * (1 : Nat))) = some (Value.slice p25 l26 c27) ∧
                                                                                        deref d fun (a28 : Addr) =>
                                                                                          ∃ (p29 : Option Addr),
                                                                                            ∃ (l30 : Nat),
                                                                                              ∃ (c31 : Nat),
                                                                                                cell h3 (Addr.add a28 (1 : Nat)) = some (Value.slice p29 l30 c31) ∧
                                                                                                  (0 : Int) ≤ n2 ∧
                                                                                                    n2 < (↑l30 : Int) ∧
                                                                                                      deref p29 fun (a32 : Addr) =>
                                                                                                        ∃ (p33 : Option Addr),
                                                                                                          ∃ (l34 : Nat),
                                                                                                            ∃ (c35 : Nat),
                                                                                                              cell h3 (Addr.add (Addr.add a32 (Int.toNat n2 * (2 : Nat))) (1 : Nat)) =
                                                                                                                  some (Value.slice p33 l34 c35) ∧
                                                                                                                CallsH Try.prog n_ref07_Mixed
                                                                                                                  #[Value.slice p25 l26 c27, Value.slice p33 l34 c35, Value.int IntKind.i64 n9] h3
                                                                                                                  fun (v36 : Value) (h37 : Heap) =>
                                                                                                                  Ext h3 h37 ∧
                                                                                                                    ∃ (p38 : Option Addr),
                                                                                                                      ∃ (l39 : Nat),
                                                                                                                        ∃ (c40 : Nat),
                                                                                                                          v36 = Value.slice p38 l39 c40 ∧
                                                                                                                            (0 : Int) ≤ n15 ∧
                                                                                                                              n15 < (↑l18 : Int) ∧
                                                                                                                                deref p17 fun (a41 : Addr) =>
                                                                                                                                  storeP none h37 (Addr.add a41 (Int.toNat n15 * (1 : Nat)))
                                                                                                                                    (Value.slice p38 l39 c40) fun (h42 : Heap) =>
                                                                                                                                    I0 (IntKind.wrap IntKind.i64 (n2 + (1 : Int))) h42 ∧
                                                                                                                                      μ1 (IntKind.wrap IntKind.i64 (n2 + (1 : Int))) h42 < μ1 n2 h3)
                        (deref d fun (a43 : Addr) =>
                          ∃ (p44 : Option Addr),
                            ∃ (l45 : Nat),
                              ∃ (c46 : Nat),
                                cell h3 (Addr.add a43 (1 : Nat)) = some (Value.slice p44 l45 c46) ∧
                                  (0 : Int) ≤ n2 ∧
                                    n2 < (↑l45 : Int) ∧
                                      deref p44 fun (a47 : Addr) =>
                                        ∃ (n48 : Int),
                                          cell h3 (Addr.add (Addr.add a47 (Int.toNat n2 * (2 : Nat))) (0 : Nat)) = some (Value.int IntKind.i64 n48) ∧
                                            deref d fun (a49 : Addr) =>
                                              ∃ (p50 : Option Addr),
                                                ∃ (l51 : Nat),
                                                  ∃ (c52 : Nat),
                                                    cell h3 (Addr.add a49 (0 : Nat)) = some (Value.slice p50 l51 c52) ∧
                                                      deref d fun (a53 : Addr) =>
                                                        ∃ (p54 : Option Addr),
                                                          ∃ (l55 : Nat),
                                                            ∃ (c56 : Nat),
                                                              cell h3 (Addr.add a53 (0 : Nat)) = some (Value.slice p54 l55 c56) ∧
                                                                (0 : Int) ≤ n48 ∧
                                                                  n48 < (↑l55 : Int) ∧
                                                                    deref p54 fun (a57 : Addr) =>
                                                                      ∃ (p58 : Option Addr),
                                                                        ∃ (l59 : Nat),
                                                                          ∃ (c60 : Nat),
                                                                            cell h3 (Addr.add a57 (Int.toNat n48 * (1 : Nat))) = some (Value.slice p58 l59 c60) ∧
                                                                              deref d fun (a61 : Addr) =>
                                                                                ∃ (p62 : Option Addr),
                                                                                  ∃ (l63 : Nat),
                                                                                    ∃ (c64 : Nat),
                                                                                      cell h3 (Addr.add a61 (1 : Nat)) = some (Value.slice p62 l63 c64) ∧
                                                                                        (0 : Int) ≤ n2 ∧
                                                                                          n2 < (↑l63 : Int) ∧
                                                                                            deref p62 fun (a65 : Addr) =>
                                                                                              ∃ (p66 : Option Addr),
                                                                                                ∃ (l67 : Nat),
                                                                                                  ∃ (c68 : Nat),
                                                                                                    cell h3 (Addr.add (Addr.add a65 (Int.toNat n2 * (2 : Nat))) (1 : Nat)) =
                                                                                                        some (Value.slice p66 l67 c68) ∧
                                                                                                      CallsH Try.prog n_ref07_Mixed
                                                                                                        #[Value.slice p58 l59 c60, Value.slice p66 l67 c68, Value.int IntKind.i64 (0 : Int)] h3
                                                                                                        fun (v69 : Value) (h70 : Heap) =>
                                                                                                        Ext h3 h70 ∧
                                                                                                          ∃ (p71 : Option Addr),
                                                                                                            ∃ (l72 : Nat),
                                                                                                              ∃ (c73 : Nat),
                                                                                                                v69 = Value.slice p71 l72 c73 ∧
                                                                                                                  (0 : Int) ≤ n48 ∧
                                                                                                                    n48 < (↑l51 : Int) ∧
                                                                                                                      deref p50 fun (a74 : Addr) =>
                                                                                                                        storeP none h70 (Addr.add a74 (Int.toNat n48 * (1 : Nat)))
                                                                                                                          (Value.slice p71 l72 c73) fun (h75 : Heap) =>
                                                                                                                          I0 (IntKind.wrap IntKind.i64 (n2 + (1 : Int))) h75 ∧
                                                                                                                            μ1 (IntKind.wrap IntKind.i64 (n2 + (1 : Int))) h75 < μ1 n2 h3))
                      (deref d fun (a76 : Addr) =>
                        storeP none h3 (Addr.mk (Addr.block a76) (Addr.off a76 + (1 : Nat)) none) (Value.slice none (0 : Nat) (0 : Nat)) fun (h77 : Heap) =>
                          deref d fun (a78 : Addr) =>
                            storeP none h77 (Addr.mk (Addr.block a78) (Addr.off a78 + (2 : Nat)) none) (Value.int IntKind.i64 (-1 : Int)) fun (h79 : Heap) =>
                              deref d fun (a80 : Addr) => storeP none h79 (Addr.mk (Addr.block a80) (Addr.off a80 + (3 : Nat)) none) (Value.bool false) fun (h81 : Heap) => R (Value.tuple #[]) h81)
theorem C_ref07_Device_Restart (d : Option Addr) (list : Option Addr) (list_l : Nat) (list_c : Nat) {h : Heap} {R : Value → Heap → Prop} (H : F_ref07_Device_Restart d list list_l list_c h R) : CallsH Try.prog n_ref07_Device_Restart [(.pointer d), (.slice list list_l list_c)].toArray h R :=
  fn_sound (A := A_ref07_Device_Restart) (Eq.mp (by kernel_rfl : F_ref07_Device_Restart d list list_l list_c h R = fnVc Go.Proofs.Try.prog A_ref07_Device_Restart 29 [(.pointer d), (.slice list list_l list_c)] h R) H)

/- (*rolodex/rolodexref07.Device).Do -/
def A_ref07_Device_Do : Ann := { qs := [8, 9, 12, 13, 15, 17, 18, 19, 22, 23, 24, 26, 31] }
def F_ref07_Device_Do (d : Option Addr) (o : Array Value) (h : Heap) (R : Value → Heap → Prop) : Prop :=
  newBlk h (46 : Nat) o fun (b0 : Nat) (h1 : Heap) =>
  ∃ (n2 : Int),
    cell h1 (Addr.add (Addr.mk b0 (0 : Nat) none) (0 : Nat)) = some (Value.int IntKind.i64 n2) ∧
      br (n2 == (1 : Int))
        (∃ (n3 : Int),
          cell h1 (Addr.add (Addr.mk b0 (0 : Nat) none) (1 : Nat)) = some (Value.int IntKind.i64 n3) ∧
            ∃ (p4 : Option Addr),
              ∃ (l5 : Nat),
                ∃ (c6 : Nat),
                  cell h1 (Addr.add (Addr.mk b0 (0 : Nat) none) (2 : Nat)) = some (Value.slice p4 l5 c6) ∧
                    CallsH Try.prog n_ref07_Device_Write #[Value.pointer d, Value.int IntKind.i64 n3, Value.slice p4 l5 c6] h1 fun (v7 : Value) (h8 : Heap) =>
                      ∃ (n9 : Int), v7 = Value.int IntKind.i64 n9 ∧ R (Value.tuple #[Value.slice none (0 : Nat) (0 : Nat), Value.int IntKind.i64 n9]) h8)
        (br (n2 == (2 : Int))
          (CallsH Try.prog n_ref07_Device_Flush #[Value.pointer d] h1 fun (v10 : Value) (h11 : Heap) =>
            ∃ (n12 : Int), v10 = Value.int IntKind.i64 n12 ∧ R (Value.tuple #[Value.slice none (0 : Nat) (0 : Nat), Value.int IntKind.i64 n12]) h11)
          (br (n2 == (3 : Int))
            (∃ (n13 : Int),
              cell h1 (Addr.add (Addr.mk b0 (0 : Nat) none) (1 : Nat)) = some (Value.int IntKind.i64 n13) ∧
                deref d fun (a14 : Addr) =>
                  storeP none h1 (Addr.mk (Addr.block a14) (Addr.off a14 + (2 : Nat)) none) (Value.int IntKind.i64 (maxI n13 (-1 : Int))) fun (h15 : Heap) =>
                    R (Value.tuple #[Value.slice none (0 : Nat) (0 : Nat), Value.int IntKind.i64 (0 : Int)]) h15)
            (br (n2 == (4 : Int))
              (∃ (p16 : Option Addr),
                ∃ (l17 : Nat),
                  ∃ (c18 : Nat),
                    cell h1 (Addr.add (Addr.mk b0 (0 : Nat) none) (3 : Nat)) = some (Value.slice p16 l17 c18) ∧
                      CallsH Try.prog n_ref07_Device_Restart #[Value.pointer d, Value.slice p16 l17 c18] h1 fun (v19 : Value) (h20 : Heap) =>
                        v19 = Value.tuple #[] ∧ R (Value.tuple #[Value.slice none (0 : Nat) (0 : Nat), Value.int IntKind.i64 (0 : Int)]) h20)
              (br (n2 == (5 : Int))
                (∃ (n21 : Int),
                  cell h1 (Addr.add (Addr.mk b0 (0 : Nat) none) (1 : Nat)) = some (Value.int IntKind.i64 n21) ∧
                    CallsH Try.prog n_ref07_Device_Read #[Value.pointer d, Value.int IntKind.i64 n21] h1 fun (v22 : Value) (h23 : Heap) =>
                      Ext h1 h23 ∧
                        ∃ (p24 : Option Addr),
                          ∃ (l25 : Nat),
                            ∃ (c26 : Nat),
                              ∃ (n27 : Int), v22 = Value.tuple #[Value.slice p24 l25 c26, Value.int IntKind.i64 n27] ∧ R (Value.tuple #[Value.slice p24 l25 c26, Value.int IntKind.i64 n27]) h23)
                (R (Value.tuple #[Value.slice none (0 : Nat) (0 : Nat), Value.int IntKind.i64 (0 : Int)]) h1)))))
theorem C_ref07_Device_Do (d : Option Addr) (o : Array Value) {h : Heap} {R : Value → Heap → Prop} (H : F_ref07_Device_Do d o h R) : CallsH Try.prog n_ref07_Device_Do [(.pointer d), (.agg o)].toArray h R :=
  fn_sound (A := A_ref07_Device_Do) (Eq.mp (by kernel_rfl : F_ref07_Device_Do d o h R = fnVc Go.Proofs.Try.prog A_ref07_Device_Do 21 [(.pointer d), (.agg o)] h R) H)

/- rolodex/rolodexref07.Few -/
def A_ref07_Few : Ann := { qs := [8, 9, 12, 13, 15, 17, 18, 19, 22, 23, 24, 26, 31], loops := [(2, [(5, (.int .i64))])] }
def F_ref07_Few (l : Option Addr) (l_l : Nat) (l_c : Nat) (n : Int) (h : Heap) (R : Value → Heap → Prop) : Prop :=
  ∃ (I0 : Int → Heap → Prop),
  ∃ (μ1 : Int → Heap → Nat),
    I0 (0 : Int) h ∧
      ∀ (n2 : Int) (h3 : Heap),
        I0 n2 h3 →
          br (decide (n2 < (↑l_l : Int)))
            (br (decide (n2 < (300 : Int)))
              ((0 : Int) ≤ n2 ∧
                n2 < (↑l_l : Int) ∧
                  deref l fun (a4 : Addr) =>
                    ∃ (p5 : Option Addr),
                      ∃ (l6 : Nat),
                        ∃ (c7 : Nat),
                          cell h3 (Addr.add (Addr.add a4 (Int.toNat n2 * (4 : Nat))) (2 : Nat)) = some (Value.slice p5 l6 c7) ∧
                            br (decide ((↑l6 : Int) > (300 : Int))) (R (Value.bool false) h3)
                              ((0 : Int) ≤ n2 ∧
                                n2 < (↑l_l : Int) ∧
                                  deref l fun (a8 : Addr) =>
                                    ∃ (p9 : Option Addr),
                                      ∃ (l10 : Nat),
                                        ∃ (c11 : Nat),
                                          cell h3 (Addr.add (Addr.add a8 (Int.toNat n2 * (4 : Nat))) (3 : Nat)) = some (Value.slice p9 l10 c11) ∧
                                            br (decide ((↑l10 : Int) > (200 : Int))) (R (Value.bool false) h3)
                                              (I0 (IntKind.wrap IntKind.i64 (n2 + (1 : Int))) h3 ∧ μ1 (IntKind.wrap IntKind.i64 (n2 + (1 : Int))) h3 < μ1 n2 h3)))
              (R (Value.bool (decide ((↑l_l : Int) ≤ n))) h3))
            (R (Value.bool (decide ((↑l_l : Int) ≤ n))) h3)
theorem C_ref07_Few (l : Option Addr) (l_l : Nat) (l_c : Nat) (n : Int) {h : Heap} {R : Value → Heap → Prop} (H : F_ref07_Few l l_l l_c n h R) : CallsH Try.prog n_ref07_Few [(.slice l l_l l_c), (.int .i64 n)].toArray h R :=
  fn_sound (A := A_ref07_Few) (Eq.mp (by kernel_rfl : F_ref07_Few l l_l l_c n h R = fnVc Go.Proofs.Try.prog A_ref07_Few 17 [(.slice l l_l l_c), (.int .i64 n)] h R) H)

/- rolodex/rolodexlaw07.awake -/
def A_law07_awake : Ann := { qs := [8, 9, 12, 13, 15, 17, 18, 19, 22, 23, 24, 26, 31] }
def F_law07_awake (h : Heap) (R : Value → Heap → Prop) : Prop :=
  CallsH Try.prog n_device_New #[Value.int IntKind.i64 (2 : Int)] h fun (v0 : Value) (h1 : Heap) =>
  Ext h h1 ∧
    ∃ (p2 : Option Addr),
      ∃ (n3 : Int),
        v0 = Value.tuple #[Value.pointer p2, Value.int IntKind.i64 n3] ∧
          br (n3 == (0 : Int))
            (br (!Option.isNone p2)
              (CallsH Try.prog n_device_Device_Pages #[Value.pointer p2] h1 fun (v4 : Value) (h5 : Heap) =>
                Ext h1 h5 ∧
                  ∃ (n6 : Int),
                    v4 = Value.int IntKind.i64 n6 ∧
                      br (n6 == (2 : Int)) (CallsH Try.prog n_device_Device_Down #[Value.pointer p2] h5 fun (v7 : Value) (h8 : Heap) => Ext h5 h8 ∧ ∃ (t9 : Bool), v7 = Value.bool t9 ∧ R (Value.bool !t9) h8)
                        (R (Value.bool false) h5))
              (R (Value.bool false) h1))
            (R (Value.bool false) h1)
theorem C_law07_awake {h : Heap} {R : Value → Heap → Prop} (H : F_law07_awake h R) : CallsH Try.prog n_law07_awake [].toArray h R :=
  fn_sound (A := A_law07_awake) (Eq.mp (by kernel_rfl : F_law07_awake h R = fnVc Go.Proofs.Try.prog A_law07_awake 8 [] h R) H)

/- rolodex/rolodexlaw07.do -/
def A_law07_do : Ann := { qs := [8, 9, 12, 13, 15, 17, 18, 19, 22, 23, 24, 26, 31] }
def F_law07_do (d : Option Addr) (o : Array Value) (h : Heap) (R : Value → Heap → Prop) : Prop :=
  newBlk h (46 : Nat) o fun (b0 : Nat) (h1 : Heap) =>
  ∃ (n2 : Int),
    cell h1 (Addr.add (Addr.mk b0 (0 : Nat) none) (0 : Nat)) = some (Value.int IntKind.i64 n2) ∧
      br (n2 == (1 : Int))
        (∃ (n3 : Int),
          cell h1 (Addr.add (Addr.mk b0 (0 : Nat) none) (1 : Nat)) = some (Value.int IntKind.i64 n3) ∧
            ∃ (p4 : Option Addr),
              ∃ (l5 : Nat),
                ∃ (c6 : Nat),
                  cell h1 (Addr.add (Addr.mk b0 (0 : Nat) none) (2 : Nat)) = some (Value.slice p4 l5 c6) ∧
                    CallsH Try.prog n_device_Device_Write #[Value.pointer d, Value.int IntKind.i64 n3, Value.slice p4 l5 c6] h1 fun (v7 : Value) (h8 : Heap) =>
                      ∃ (n9 : Int), v7 = Value.int IntKind.i64 n9 ∧ R (Value.tuple #[Value.slice none (0 : Nat) (0 : Nat), Value.int IntKind.i64 n9]) h8)
        (br (n2 == (2 : Int))
          (CallsH Try.prog n_device_Device_Flush #[Value.pointer d] h1 fun (v10 : Value) (h11 : Heap) =>
            ∃ (n12 : Int), v10 = Value.int IntKind.i64 n12 ∧ R (Value.tuple #[Value.slice none (0 : Nat) (0 : Nat), Value.int IntKind.i64 n12]) h11)
          (br (n2 == (3 : Int))
            (∃ (n13 : Int),
              cell h1 (Addr.add (Addr.mk b0 (0 : Nat) none) (1 : Nat)) = some (Value.int IntKind.i64 n13) ∧
                CallsH Try.prog n_device_Device_SetFuse #[Value.pointer d, Value.int IntKind.i64 n13] h1 fun (v14 : Value) (h15 : Heap) =>
                  v14 = Value.tuple #[] ∧ R (Value.tuple #[Value.slice none (0 : Nat) (0 : Nat), Value.int IntKind.i64 (0 : Int)]) h15)
            (br (n2 == (4 : Int))
              (∃ (p16 : Option Addr),
                ∃ (l17 : Nat),
                  ∃ (c18 : Nat),
                    cell h1 (Addr.add (Addr.mk b0 (0 : Nat) none) (3 : Nat)) = some (Value.slice p16 l17 c18) ∧
                      CallsH Try.prog n_device_Device_Restart #[Value.pointer d, Value.slice p16 l17 c18] h1 fun (v19 : Value) (h20 : Heap) =>
                        v19 = Value.tuple #[] ∧ R (Value.tuple #[Value.slice none (0 : Nat) (0 : Nat), Value.int IntKind.i64 (0 : Int)]) h20)
              (br (n2 == (5 : Int))
                (∃ (n21 : Int),
                  cell h1 (Addr.add (Addr.mk b0 (0 : Nat) none) (1 : Nat)) = some (Value.int IntKind.i64 n21) ∧
                    CallsH Try.prog n_device_Device_Read #[Value.pointer d, Value.int IntKind.i64 n21] h1 fun (v22 : Value) (h23 : Heap) =>
                      Ext h1 h23 ∧
                        ∃ (p24 : Option Addr),
                          ∃ (l25 : Nat),
                            ∃ (c26 : Nat),
                              ∃ (n27 : Int), v22 = Value.tuple #[Value.slice p24 l25 c26, Value.int IntKind.i64 n27] ∧ R (Value.tuple #[Value.slice p24 l25 c26, Value.int IntKind.i64 n27]) h23)
                (R (Value.tuple #[Value.slice none (0 : Nat) (0 : Nat), Value.int IntKind.i64 (0 : Int)]) h1)))))
theorem C_law07_do (d : Option Addr) (o : Array Value) {h : Heap} {R : Value → Heap → Prop} (H : F_law07_do d o h R) : CallsH Try.prog n_law07_do [(.pointer d), (.agg o)].toArray h R :=
  fn_sound (A := A_law07_do) (Eq.mp (by kernel_rfl : F_law07_do d o h R = fnVc Go.Proofs.Try.prog A_law07_do 20 [(.pointer d), (.agg o)] h R) H)

/- rolodex/rolodexlaw07.DeviceWhole -/
def A_law07_DeviceWhole : Ann := { qs := [8, 9, 12, 13, 15, 17, 18, 19, 22, 23, 24, 26, 31], loops := [(8, [(10, .slice), (11, (.int .i64))]), (20, [(14, (.int .i64))])], plans := [(24, (.take 0 (.take 1 (.take 2 (.take 3 (.take 4 (.take 5 (.take 6 (.take 7 (.take 8 (.take 9 (.take 10 (.take 11 (.take 12 (.take 13 (.alt 14 (.alt 15 (.take 16 (.take 17 .done)) .stop) .stop))))))))))))))))] }
def F_law07_DeviceWhole (where_ : Option Addr) (where__l : Nat) (where__c : Nat) (c : Int) (h : Heap) (R : Value → Heap → Prop) : Prop :=
  CallsH Try.prog n_law07_awake #[] h fun (v0 : Value) (h1 : Heap) =>
  Ext h h1 ∧
    ∃ (t2 : Bool),
      v0 = Value.bool t2 ∧
        br (!t2) (CallsH Try.prog n_law07_awake #[] h1 fun (v3 : Value) (h4 : Heap) => Ext h1 h4 ∧ ∃ (t5 : Bool), v3 = Value.bool t5 ∧ R (Value.bool t5) h4)
          (br (decide ((↑where__l : Int) > (60 : Int))) (CallsH Try.prog n_law07_awake #[] h1 fun (v6 : Value) (h7 : Heap) => Ext h1 h7 ∧ ∃ (t8 : Bool), v6 = Value.bool t8 ∧ R (Value.bool t8) h7)
            (CallsH Try.prog n_device_New #[Value.int IntKind.i64 (12 : Int)] h1 fun (v9 : Value) (h10 : Heap) =>
              Ext h1 h10 ∧
                ∃ (p11 : Option Addr),
                  ∃ (n12 : Int),
                    v9 = Value.tuple #[Value.pointer p11, Value.int IntKind.i64 n12] ∧
                      CallsH Try.prog n_device_New #[Value.int IntKind.i64 (12 : Int)] h10 fun (v13 : Value) (h14 : Heap) =>
                        Ext h10 h14 ∧
                          ∃ (p15 : Option Addr),
                            ∃ (n16 : Int),
                              v13 = Value.tuple #[Value.pointer p15, Value.int IntKind.i64 n16] ∧
                                newBlk h14 (28 : Nat) (List.toArray (List.replicate (12 : Nat) (Value.int IntKind.u8 (0 : Int)))) fun (b17 : Nat) (h18 : Heap) =>
                                  ∃ (I19 : (Option Addr × Nat × Nat) × Int → Heap → Prop),
                                    ∃ (μ20 : (Option Addr × Nat × Nat) × Int → Heap → Nat),
                                      I19 ((none, (0 : Nat), (0 : Nat)), (0 : Int)) h18 ∧
                                        ∀ (s21 : (Option Addr × Nat × Nat) × Int) (h22 : Heap),
                                          I19 s21 h22 →
                                            br (decide (Prod.snd s21 < (↑where__l : Int)))
                                              ((0 : Int) ≤ Prod.snd s21 ∧
                                                Prod.snd s21 < (↑where__l : Int) ∧
                                                  deref where_ fun (a23 : Addr) =>
                                                    ∃ (n24 : Int),
                                                      cell h22 (Addr.add a23 (Int.toNat (Prod.snd s21) * (1 : Nat))) = some (Value.int IntKind.u8 n24) ∧
                                                        (12 : Int) ≠ (0 : Int) ∧
                                                          makeP (5 : Nat) (1 : Nat) (1 : Nat) #[Value.int IntKind.u8 (0 : Int)] (128 : Int) (128 : Int) h22 fun (b25 : Nat) (h26 : Heap) =>
                                                            (0 : Int) ≤ (127 : Int) ∧
                                                              (127 : Int) < (↑(128 : Nat) : Int) ∧
                                                                storeP none h26 (Addr.mk (Addr.block (Addr.mk b25 (0 : Nat) none)) (Addr.off (Addr.mk b25 (0 : Nat) none) + (127 : Nat)) none)
                                                                  (Value.int IntKind.u8 (IntKind.wrap IntKind.u8 (c + IntKind.wrap IntKind.u8 (Prod.snd s21)))) fun (h27 : Heap) =>
                                                                  (0 : Int) ≤ (127 : Int) ∧
                                                                    (127 : Int) < (↑(128 : Nat) : Int) ∧
                                                                      ∃ (n28 : Int),
                                                                        cell h27 (Addr.add (Addr.mk b25 (0 : Nat) none) (127 : Nat)) = some (Value.int IntKind.u8 n28) ∧
                                                                          (0 : Int) ≤ IntKind.wrap IntKind.i64 (Int.tmod n24 (12 : Int)) ∧
                                                                            IntKind.wrap IntKind.i64 (Int.tmod n24 (12 : Int)) < (↑(12 : Nat) : Int) ∧
                                                                              storeP none h27
                                                                                (Addr.add (Addr.mk b17 (0 : Nat) none) (Int.toNat (IntKind.wrap IntKind.i64 (Int.tmod n24 (12 : Int))) * (1 : Nat)))
                                                                                (Value.int IntKind.u8 n28) fun (h29 : Heap) =>
                                                                                newBlk h29 (3 : Nat) #[Value.int IntKind.i64 (128 : Int)] fun (b30 : Nat) (h31 : Heap) =>
                                                                                  appendP (3 : Nat) (1 : Nat) (8 : Nat) #[Value.int IntKind.i64 (0 : Int)] (Prod.fst (Prod.fst s21))
                                                                                    (Prod.fst (Prod.snd (Prod.fst s21))) (Prod.snd (Prod.snd (Prod.fst s21))) (some (Addr.mk b30 (0 : Nat) none))
                                                                                    (1 : Nat) h31 fun (p32 : Option Addr) (l33 c34 : Nat) (h35 : Heap) =>
                                                                                    CallsH Try.prog n_device_Device_Write
                                                                                      #[Value.pointer p11, Value.int IntKind.i64 (IntKind.wrap IntKind.i64 (Int.tmod n24 (12 : Int))),
                                                                                        Value.slice (some (Addr.mk b25 (0 : Nat) none)) (128 : Nat) (128 : Nat)]
                                                                                      h35 fun (v36 : Value) (h37 : Heap) =>
                                                                                      ∃ (n38 : Int),
                                                                                        v36 = Value.int IntKind.i64 n38 ∧
                                                                                          br (n38 != (0 : Int)) (R (Value.bool false) h37)
                                                                                            (CallsH Try.prog n_device_Device_Write
                                                                                              #[Value.pointer p15, Value.int IntKind.i64 (IntKind.wrap IntKind.i64 (Int.tmod n24 (12 : Int))),
                                                                                                Value.slice (some (Addr.mk b25 (0 : Nat) none)) (128 : Nat) (128 : Nat)]
                                                                                              h37 fun (v39 : Value) (h40 : Heap) =>
                                                                                              ∃ (n41 : Int),
                                                                                                v39 = Value.int IntKind.i64 n41 ∧
                                                                                                  br (n41 != (0 : Int)) (R (Value.bool false) h40)
                                                                                                    (I19 ((p32, l33, c34), IntKind.wrap IntKind.i64 (Prod.snd s21 + (1 : Int))) h40 ∧
                                                                                                      μ20 ((p32, l33, c34), IntKind.wrap IntKind.i64 (Prod.snd s21 + (1 : Int))) h40 < μ20 s21 h22)))
                                              (CallsH Try.prog n_device_Device_Restart
                                                #[Value.pointer p11, Value.slice (Prod.fst (Prod.fst s21)) (Prod.fst (Prod.snd (Prod.fst s21))) (Prod.snd (Prod.snd (Prod.fst s21)))] h22
                                                fun (v42 : Value) (h43 : Heap) =>
                                                v42 = Value.tuple #[] ∧
                                                  CallsH Try.prog n_device_Device_Restart #[Value.pointer p15, Value.slice none (0 : Nat) (0 : Nat)] h43 fun (v44 : Value) (h45 : Heap) =>
                                                    v44 = Value.tuple #[] ∧
                                                      ∃ (I46 : Int → Heap → Prop),
                                                        ∃ (μ47 : Int → Heap → Nat),
                                                          I46 (0 : Int) h45 ∧
                                                            ∀ (n48 : Int) (h49 : Heap),
                                                              I46 n48 h49 →
                                                                br (decide (n48 < (12 : Int)))
                                                                  (CallsH Try.prog n_device_Device_Read #[Value.pointer p11, Value.int IntKind.i64 n48] h49 fun (v50 : Value) (h51 : Heap) =>
                                                                    Ext h49 h51 ∧
                                                                      ∃ (p52 : Option Addr),
                                                                        ∃ (l53 : Nat),
                                                                          ∃ (c54 : Nat),
                                                                            ∃ (n55 : Int),
                                                                              v50 = Value.tuple #[Value.slice p52 l53 c54, Value.int IntKind.i64 n55] ∧
                                                                                CallsH Try.prog n_device_Device_Read #[Value.pointer p15, Value.int IntKind.i64 n48] h51 fun (v56 : Value) (h57 : Heap) =>
                                                                                  Ext h51 h57 ∧
                                                                                    ∃ (p58 : Option Addr),
                                                                                      ∃ (l59 : Nat),
                                                                                        ∃ (c60 : Nat),
                                                                                          ∃ (n61 : Int),
                                                                                            v56 = Value.tuple #[Value.slice p58 l59 c60, Value.int IntKind.i64 n61] ∧
                                                                                              br ((↑l53 : Int) != (128 : Int)) (R (Value.bool false) h57)
                                                                                                ((0 : Int) ≤ (127 : Int) ∧
                                                                                                  (127 : Int) < (↑l53 : Int) ∧
                                                                                                    deref p52 fun (a62 : Addr) =>
                                                                                                      ∃ (n63 : Int),
                                                                                                        cell h57 (Addr.add a62 (127 : Nat)) = some (Value.int IntKind.u8 n63) ∧
                                                                                                          (0 : Int) ≤ n48 ∧
                                                                                                            n48 < (↑(12 : Nat) : Int) ∧
                                                                                                              ∃ (n64 : Int),
                                                                                                                cell h57 (Addr.add (Addr.mk b17 (0 : Nat) none) (Int.toNat n48 * (1 : Nat))) =
                                                                                                                    some (Value.int IntKind.u8 n64) ∧
                                                                                                                  br (n63 != n64) (R (Value.bool false) h57)
                                                                                                                    (makeP (5 : Nat) (1 : Nat) (1 : Nat) #[Value.int IntKind.u8 (0 : Int)] (128 : Int)
                                                                                                                      (128 : Int) h57 fun (b65 : Nat) (h66 : Heap) =>
                                                                                                                      CallsH Try.prog n_ref01_Same
                                                                                                                        #[Value.slice p58 l59 c60,
                                                                                                                          Value.slice (some (Addr.mk b65 (0 : Nat) none)) (128 : Nat) (128 : Nat)]
                                                                                                                        h66 fun (v67 : Value) (h68 : Heap) =>
                                                                                                                        Ext h66 h68 ∧
                                                                                                                          ∃ (t69 : Bool),
                                                                                                                            v67 = Value.bool t69 ∧
                                                                                                                              br (!t69) (R (Value.bool false) h68)
                                                                                                                                (I46 (IntKind.wrap IntKind.i64 (n48 + (1 : Int))) h68 ∧
                                                                                                                                  μ47 (IntKind.wrap IntKind.i64 (n48 + (1 : Int))) h68 < μ47 n48 h49))))
                                                                  (R (Value.bool true) h49))))
theorem C_law07_DeviceWhole (where_ : Option Addr) (where__l : Nat) (where__c : Nat) (c : Int) {h : Heap} {R : Value → Heap → Prop} (H : F_law07_DeviceWhole where_ where__l where__c c h R) : CallsH Try.prog n_law07_DeviceWhole [(.slice where_ where__l where__c), (.int .u8 c)].toArray h R :=
  fn_sound (A := A_law07_DeviceWhole) (Eq.mp (by kernel_rfl : F_law07_DeviceWhole where_ where__l where__c c h R = fnVc Go.Proofs.Try.prog A_law07_DeviceWhole 3 [(.slice where_ where__l where__c), (.int .u8 c)] h R) H)

/- rolodex/rolodexlaw07.DeviceFuse -/
def A_law07_DeviceFuse : Ann := { qs := [8, 9, 12, 13, 15, 17, 18, 19, 22, 23, 24, 26, 31], loops := [(6, [(5, (.int .i64))])] }
def F_law07_DeviceFuse (n : Int) (h : Heap) (R : Value → Heap → Prop) : Prop :=
  CallsH Try.prog n_device_New #[Value.int IntKind.i64 (3 : Int)] h fun (v0 : Value) (h1 : Heap) =>
  Ext h h1 ∧
    ∃ (p2 : Option Addr),
      ∃ (n3 : Int),
        v0 = Value.tuple #[Value.pointer p2, Value.int IntKind.i64 n3] ∧
          CallsH Try.prog n_law07_awake #[] h1 fun (v4 : Value) (h5 : Heap) =>
            Ext h1 h5 ∧
              ∃ (t6 : Bool),
                v4 = Value.bool t6 ∧
                  br (!t6) (R (Value.bool false) h5)
                    (br (n3 != (0 : Int)) (R (Value.bool false) h5)
                      (CallsH Try.prog n_device_Device_SetFuse #[Value.pointer p2, Value.int IntKind.i64 (IntKind.wrap IntKind.i64 n)] h5 fun (v7 : Value) (h8 : Heap) =>
                        v7 = Value.tuple #[] ∧
                          ∃ (I9 : Int → Heap → Prop),
                            ∃ (μ10 : Int → Heap → Nat),
                              I9 (0 : Int) h8 ∧
                                ∀ (n11 : Int) (h12 : Heap),
                                  I9 n11 h12 →
                                    br (decide (n11 < IntKind.wrap IntKind.i64 n))
                                      (CallsH Try.prog n_device_Device_Write #[Value.pointer p2, Value.int IntKind.i64 (3 : Int), Value.slice none (0 : Nat) (0 : Nat)] h12 fun (v13 : Value) (h14 : Heap) =>
                                        ∃ (n15 : Int),
                                          v13 = Value.int IntKind.i64 n15 ∧
                                            br (n15 != (4 : Int)) (R (Value.bool false) h14)
                                              (CallsH Try.prog n_device_Device_Write #[Value.pointer p2, Value.int IntKind.i64 (0 : Int), Value.slice none (0 : Nat) (0 : Nat)] h14
                                                fun (v16 : Value) (h17 : Heap) =>
                                                ∃ (n18 : Int),
                                                  v16 = Value.int IntKind.i64 n18 ∧
                                                    br (n18 != (1 : Int)) (R (Value.bool false) h17)
                                                      (CallsH Try.prog n_device_Device_Down #[Value.pointer p2] h17 fun (v19 : Value) (h20 : Heap) =>
                                                        Ext h17 h20 ∧
                                                          ∃ (t21 : Bool),
                                                            v19 = Value.bool t21 ∧
                                                              br t21 (R (Value.bool false) h20)
                                                                ((3 : Int) ≠ (0 : Int) ∧
                                                                  br (Int.tmod n11 (3 : Int) == (2 : Int))
                                                                    (CallsH Try.prog n_device_Device_Flush #[Value.pointer p2] h20 fun (v22 : Value) (h23 : Heap) =>
                                                                      ∃ (n24 : Int),
                                                                        v22 = Value.int IntKind.i64 n24 ∧
                                                                          br (n24 != (0 : Int)) (R (Value.bool false) h23)
                                                                            ((3 : Int) ≠ (0 : Int) ∧
                                                                              br (decide (Int.tmod n11 (3 : Int) < (2 : Int)))
                                                                                ((3 : Int) ≠ (0 : Int) ∧
                                                                                  makeP (5 : Nat) (1 : Nat) (1 : Nat) #[Value.int IntKind.u8 (0 : Int)] (128 : Int) (128 : Int) h23
                                                                                    fun (b25 : Nat) (h26 : Heap) =>
                                                                                    CallsH Try.prog n_device_Device_Write
                                                                                      #[Value.pointer p2, Value.int IntKind.i64 (Int.tmod n11 (3 : Int)),
                                                                                        Value.slice (some (Addr.mk b25 (0 : Nat) none)) (128 : Nat) (128 : Nat)]
                                                                                      h26 fun (v27 : Value) (h28 : Heap) =>
                                                                                      ∃ (n29 : Int),
                                                                                        v27 = Value.int IntKind.i64 n29 ∧
                                                                                          br (n29 != (0 : Int)) (R (Value.bool false) h28)
                                                                                            (I9 (IntKind.wrap IntKind.i64 (n11 + (1 : Int))) h28 ∧
                                                                                              μ10 (IntKind.wrap IntKind.i64 (n11 + (1 : Int))) h28 < μ10 n11 h12))
                                                                                (I9 (IntKind.wrap IntKind.i64 (n11 + (1 : Int))) h23 ∧
                                                                                  μ10 (IntKind.wrap IntKind.i64 (n11 + (1 : Int))) h23 < μ10 n11 h12)))
                                                                    ((3 : Int) ≠ (0 : Int) ∧
                                                                      br (decide (Int.tmod n11 (3 : Int) < (2 : Int)))
                                                                        ((3 : Int) ≠ (0 : Int) ∧
                                                                          makeP (5 : Nat) (1 : Nat) (1 : Nat) #[Value.int IntKind.u8 (0 : Int)] (128 : Int) (128 : Int) h20
                                                                            fun (b30 : Nat) (h31 : Heap) =>
                                                                            CallsH Try.prog n_device_Device_Write
                                                                              #[Value.pointer p2, Value.int IntKind.i64 (Int.tmod n11 (3 : Int)),
                                                                                Value.slice (some (Addr.mk b30 (0 : Nat) none)) (128 : Nat) (128 : Nat)]
                                                                              h31 fun (v32 : Value) (h33 : Heap) =>
                                                                              ∃ (n34 : Int),
                                                                                v32 = Value.int IntKind.i64 n34 ∧
                                                                                  br (n34 != (0 : Int)) (R (Value.bool false) h33)
                                                                                    (I9 (IntKind.wrap IntKind.i64 (n11 + (1 : Int))) h33 ∧
                                                                                      μ10 (IntKind.wrap IntKind.i64 (n11 + (1 : Int))) h33 < μ10 n11 h12))
                                                                        (I9 (IntKind.wrap IntKind.i64 (n11 + (1 : Int))) h20 ∧ μ10 (IntKind.wrap IntKind.i64 (n11 + (1 : Int))) h20 < μ10 n11 h12))))))
                                      (CallsH Try.prog n_device_Device_Flush #[Value.pointer p2] h12 fun (v35 : Value) (h36 : Heap) =>
                                        ∃ (n37 : Int),
                                          v35 = Value.int IntKind.i64 n37 ∧
                                            CallsH Try.prog n_device_Device_Read #[Value.pointer p2, Value.int IntKind.i64 (0 : Int)] h36 fun (v38 : Value) (h39 : Heap) =>
                                              Ext h36 h39 ∧
                                                ∃ (p40 : Option Addr),
                                                  ∃ (l41 : Nat),
                                                    ∃ (c42 : Nat),
                                                      ∃ (n43 : Int),
                                                        v38 = Value.tuple #[Value.slice p40 l41 c42, Value.int IntKind.i64 n43] ∧
                                                          makeP (5 : Nat) (1 : Nat) (1 : Nat) #[Value.int IntKind.u8 (0 : Int)] (128 : Int) (128 : Int) h39 fun (b44 : Nat) (h45 : Heap) =>
                                                            CallsH Try.prog n_device_Device_Write
                                                              #[Value.pointer p2, Value.int IntKind.i64 (0 : Int), Value.slice (some (Addr.mk b44 (0 : Nat) none)) (128 : Nat) (128 : Nat)] h45
                                                              fun (v46 : Value) (h47 : Heap) =>
                                                              ∃ (n48 : Int),
                                                                v46 = Value.int IntKind.i64 n48 ∧
                                                                  CallsH Try.prog n_device_Device_Down #[Value.pointer p2] h47 fun (v49 : Value) (h50 : Heap) =>
                                                                    Ext h47 h50 ∧
                                                                      ∃ (t51 : Bool),
                                                                        v49 = Value.bool t51 ∧
                                                                          CallsH Try.prog n_device_Device_Restart #[Value.pointer p2, Value.slice none (0 : Nat) (0 : Nat)] h50 fun (v52 : Value) (h53 : Heap) =>
                                                                            v52 = Value.tuple #[] ∧
                                                                              br (n37 == (6 : Int))
                                                                                (br (n43 == (6 : Int))
                                                                                  (br (n48 == (6 : Int))
                                                                                    (br t51
                                                                                      (CallsH Try.prog n_device_Device_Down #[Value.pointer p2] h53 fun (v54 : Value) (h55 : Heap) =>
                                                                                        Ext h53 h55 ∧
                                                                                          ∃ (t56 : Bool),
                                                                                            v54 = Value.bool t56 ∧
                                                                                              br (!t56)
                                                                                                (CallsH Try.prog n_device_Device_Flush #[Value.pointer p2] h55 fun (v57 : Value) (h58 : Heap) =>
                                                                                                  ∃ (n59 : Int), v57 = Value.int IntKind.i64 n59 ∧ R (Value.bool (n59 == (0 : Int))) h58)
                                                                                                (R (Value.bool false) h55))
                                                                                      (R (Value.bool false) h53))
                                                                                    (R (Value.bool false) h53))
                                                                                  (R (Value.bool false) h53))
                                                                                (R (Value.bool false) h53))))
theorem C_law07_DeviceFuse (n : Int) {h : Heap} {R : Value → Heap → Prop} (H : F_law07_DeviceFuse n h R) : CallsH Try.prog n_law07_DeviceFuse [(.int .u8 n)].toArray h R :=
  fn_sound (A := A_law07_DeviceFuse) (Eq.mp (by kernel_rfl : F_law07_DeviceFuse n h R = fnVc Go.Proofs.Try.prog A_law07_DeviceFuse 4 [(.int .u8 n)] h R) H)

/- rolodex/rolodexlaw07.DevicePlays -/
def A_law07_DevicePlays : Ann := { qs := [8, 9, 12, 13, 15, 17, 18, 19, 22, 23, 24, 26, 31], loops := [(9, [(9, (.int .i64))]), (16, [(14, (.int .i64))])], plans := [(13, (.take 0 (.take 1 (.take 2 (.take 3 (.take 4 (.take 5 (.alt 6 (.take 7 (.take 8 (.take 9 (.take 10 (.take 12 (.take 13 (.take 14 (.take 15 (.alt 11 (.take 16 (.take 17 (.take 18 (.take 19 (.take 21 (.take 22 (.take 23 (.take 24 (.take 25 (.alt 20 (.take 26 (.take 27 .done)) .stop)))))))))) .stop))))))))) .stop))))))))] }
def F_law07_DevicePlays (pages : Int) (script : Option Addr) (script_l : Nat) (script_c : Nat) (h : Heap) (R : Value → Heap → Prop) : Prop :=
  CallsH Try.prog n_law07_awake #[] h fun (v0 : Value) (h1 : Heap) =>
  Ext h h1 ∧
    ∃ (t2 : Bool),
      v0 = Value.bool t2 ∧
        br (!t2) (CallsH Try.prog n_law07_awake #[] h1 fun (v3 : Value) (h4 : Heap) => Ext h1 h4 ∧ ∃ (t5 : Bool), v3 = Value.bool t5 ∧ R (Value.bool t5) h4)
          (CallsH Try.prog n_ref07_Few #[Value.slice script script_l script_c, Value.int IntKind.i64 (80 : Int)] h1 fun (v6 : Value) (h7 : Heap) =>
            Ext h1 h7 ∧
              ∃ (t8 : Bool),
                v6 = Value.bool t8 ∧
                  br (!t8) (CallsH Try.prog n_law07_awake #[] h7 fun (v9 : Value) (h10 : Heap) => Ext h7 h10 ∧ ∃ (t11 : Bool), v9 = Value.bool t11 ∧ R (Value.bool t11) h10)
                    ((13 : Int) ≠ (0 : Int) ∧
                      CallsH Try.prog n_device_New #[Value.int IntKind.i64 (IntKind.wrap IntKind.i64 (Int.tmod pages (13 : Int)))] h7 fun (v12 : Value) (h13 : Heap) =>
                        Ext h7 h13 ∧
                          ∃ (p14 : Option Addr),
                            ∃ (n15 : Int),
                              v12 = Value.tuple #[Value.pointer p14, Value.int IntKind.i64 n15] ∧
                                CallsH Try.prog n_ref07_New #[Value.int IntKind.i64 (IntKind.wrap IntKind.i64 (Int.tmod pages (13 : Int)))] h13 fun (v16 : Value) (h17 : Heap) =>
                                  Ext h13 h17 ∧
                                    ∃ (p18 : Option Addr),
                                      v16 = Value.pointer p18 ∧
                                        br (n15 != (0 : Int)) (R (Value.bool false) h17)
                                          (CallsH Try.prog n_device_Device_Pages #[Value.pointer p14] h17 fun (v19 : Value) (h20 : Heap) =>
                                            Ext h17 h20 ∧
                                              ∃ (n21 : Int),
                                                v19 = Value.int IntKind.i64 n21 ∧
                                                  br (n21 != IntKind.wrap IntKind.i64 (Int.tmod pages (13 : Int))) (R (Value.bool false) h20)
                                                    (∃ (I22 : Int → Heap → Prop),
                                                      ∃ (μ23 : Int → Heap → Nat),
                                                        I22 (0 : Int) h20 ∧
                                                          ∀ (n24 : Int) (h25 : Heap),
                                                            I22 n24 h25 →
                                                              br (decide (n24 < (↑script_l : Int)))
                                                                ((0 : Int) ≤ n24 ∧
                                                                  n24 < (↑script_l : Int) ∧
                                                                    deref script fun (a26 : Addr) =>
                                                                      ∃ (cs27 : Array Value),
                                                                        row h25 (Addr.add a26 (Int.toNat n24 * (4 : Nat))) (4 : Nat) = some cs27 ∧
                                                                          CallsH Try.prog n_law07_do #[Value.pointer p14, Value.agg cs27] h25 fun (v28 : Value) (h29 : Heap) =>
                                                                            ∃ (p30 : Option Addr),
                                                                              ∃ (l31 : Nat),
                                                                                ∃ (c32 : Nat),
                                                                                  ∃ (n33 : Int),
                                                                                    v28 = Value.tuple #[Value.slice p30 l31 c32, Value.int IntKind.i64 n33] ∧
                                                                                      (0 : Int) ≤ n24 ∧
                                                                                        n24 < (↑script_l : Int) ∧
                                                                                          deref script fun (a34 : Addr) =>
                                                                                            ∃ (cs35 : Array Value),
                                                                                              row h29 (Addr.add a34 (Int.toNat n24 * (4 : Nat))) (4 : Nat) = some cs35 ∧
                                                                                                CallsH Try.prog n_ref07_Device_Do #[Value.pointer p18, Value.agg cs35] h29 fun (v36 : Value) (h37 : Heap) =>
                                                                                                  ∃ (p38 : Option Addr),
                                                                                                    ∃ (l39 : Nat),
                                                                                                      ∃ (c40 : Nat),
                                                                                                        ∃ (n41 : Int),
                                                                                                          v36 = Value.tuple #[Value.slice p38 l39 c40, Value.int IntKind.i64 n41] ∧
                                                                                                            br (n33 != n41) (R (Value.bool false) h37)
                                                                                                              (CallsH Try.prog n_ref01_Same #[Value.slice p30 l31 c32, Value.slice p38 l39 c40] h37
                                                                                                                fun (v42 : Value) (h43 : Heap) =>
                                                                                                                Ext h37 h43 ∧
                                                                                                                  ∃ (t44 : Bool),
                                                                                                                    v42 = Value.bool t44 ∧
                                                                                                                      br (!t44) (R (Value.bool false) h43)
                                                                                                                        (deref p18 fun (a45 : Addr) =>
                                                                                                                          ∃ (t46 : Bool),
                                                                                                                            cell h43 (Addr.add a45 (3 : Nat)) = some (Value.bool t46) ∧
                                                                                                                              CallsH Try.prog n_device_Device_Down #[Value.pointer p14] h43
                                                                                                                                fun (v47 : Value) (h48 : Heap) =>
                                                                                                                                Ext h43 h48 ∧
                                                                                                                                  ∃ (t49 : Bool),
                                                                                                                                    v47 = Value.bool t49 ∧
                                                                                                                                      br (!t49 == t46) (R (Value.bool false) h48)
                                                                                                                                        (deref p18 fun (a50 : Addr) =>
                                                                                                                                          ∃ (p51 : Option Addr),
                                                                                                                                            ∃ (l52 : Nat),
                                                                                                                                              ∃ (c53 : Nat),
                                                                                                                                                cell h48 (Addr.add a50 (1 : Nat)) =
                                                                                                                                                    some (Value.slice p51 l52 c53) ∧
                                                                                                                                                  CallsH Try.prog n_device_Device_Waits #[Value.pointer p14] h48
                                                                                                                                                    fun (v54 : Value) (h55 : Heap) =>
                                                                                                                                                    Ext h48 h55 ∧
                                                                                                                                                      ∃ (n56 : Int),
                                                                                                                                                        v54 = Value.int IntKind.i64 n56 ∧
                                                                                                                                                          br (n56 != (↑l52 : Int))
                                                                                                                                                            (R (Value.bool false) h55)
                                                                                                                                                            (∃ (I57 : Int → Heap → Prop),
                                                                                                                                                              ∃ (μ58 : Int → Heap → Nat),
                                                                                                                                                                I57 (-1 : Int) h55 ∧
                                                                                                                                                                  ∀ (n59 : Int) (h60 : Heap),
                                                                                                                                                                    I57 n59 h60 →
                                                                                                                                                                      br
                                                                                                                                                                        (decide
                                                                                                                                                                          (n59 ≤
                                                                                                                                                                            IntKind.wrap IntKind.i64
                                                                                                                                                                              (Int.tmod pages
                                                                                                                                                                                (13 : Int))))
                                                                                                                                                                        (CallsH Try.prog n_device_Device_Read
                                                                                                                                                                          #[Value.pointer p14,
                                                                                                                                                                            Value.int IntKind.i64 n59]
                                                                                                                                                                          h60
                                                                                                                                                                          fun (v61 : Value)
                                                                                                                                                                            (h62 : Heap) =>
                                                                                                                                                                          Ext h60 h62 ∧
                                                                                                                                                                            ∃ (p63 : Option Addr),
                                                                                                                                                                              ∃ (l64 : Nat),
                                                                                                                                                                                ∃ (c65 : Nat),
                                                                                                                                                                                  ∃ (n66 : Int),
                                                                                                                                                                                    v61 =
                                                                                                                                                                                        Value.tuple
                                                                                                                                                                                          #[Value.slice
                                                                                                                                                                                              p63 l64
                                                                                                                                                                                              c65,
                                                                                                                                                                                            Value.int
                                                                                                                                                                                              IntKind.i64
                                                                                                                                                                                              n66] ∧
                                                                                                                                                                                      CallsH Try.prog
                                                                                                                                                                                        (23 : Nat)
                                                                                                                                                                                        #[Value.pointer
                                                                                                                                                                                            p18,
                                                                                                                                                                                          Value.int
                                                                                                                                                                                            IntKind.i64
                                                                                                                                                                                            n59]
                                                                                                                                                                                        h62
                                                                                                                                                                                        fun
                                                                                                                                                                                          (v67 : Value)
                                                                                                                                                                                          (h68 :
                                                                                                                                                                                            Heap) =>
                                                                                                                                                                                        Ext h62 h68 ∧
                                                                                                                                                                                          ∃ (p69 :
                                                                                                                                                                                            Option
                                                                                                                                                                                              Addr),
                                                                                                                                                                                            ∃ (l70 :
                                                                                                                                                                                              Nat),
                                                                                                                                                                                              ∃ (c71 :
                                                                                                                                                                                                Nat),
                                                                                                                                                                                                ∃ (n72 :
                                                                                                                                                                                                  Int),
                                                                                                                                                                                                  v67 =
                                                                                                                                                                                                      Value.tuple
                                                                                                                                                                                                        #[Value.slice
                                                                                                                                                                                                            p69
                                                                                                                                                                                                            l70
                                                                                                                                                                                                            c71,
                                                                                                                                                                                                          Value.int
                                                                                                                                                                                                            IntKind.i64
                                                                                                                                                                                                            n72] ∧
                                                                                                                                                                                                    br
                                                                                                                                                                                                      (n66 !=
                                                                                                                                                                                                        n72)
                                                                                                                                                                                                      (R
                                                                                                                                                                                                        (Value.bool
                                                                                                                                                                                                          false)
                                                                                                                                                                                                        h68)
                                                                                                                                                                                                      (CallsH
                                                                                                                                                                                                        Try.prog
                                                                                                                                                                                                        (13 :
                                                                                                                                                                                                          Nat)
                                                                                                                                                                                                        #[Value.slice
                                                                                                                                                                                                            p63
                                                                                                                                                                                                            l64
                                                                                                                                                                                                            c65,
                                                                                                                                                                                                          Value.slice
                                                                                                                                                                                                            p69
                                                                                                                                                                                                            l70
                                                                                                                                                                                                            c71]
                                                                                                                                                                                                        h68
                                                                                                                                                                                                        fun
                                                                                                                                                                                                          (v73 :
                                                                                                                                                                                                            Value)
                                                                                                                                                                                                          (h74 :
                                                                                                                                                                                                            Heap) =>
                                                                                                                                                                                                        Ext
                                                                                                                                                                                                            h68
                                                                                                                                                                                                            h74 ∧
                                                                                                                                                                                                          ∃
                                                                                                                                                                                                            (t75
                                                                                                                                                                                                            :
                                                                                                                                                                                                            Bool),
                                                                                                                                                                                                            v73 =
                                                                                                                                                                                                                Value.bool
                                                                                                                                                                                                                  t75 ∧
                                                                                                                                                                                                              br
                                                                                                                                                                                                                (!t75)
                                                                                                                                                                                                                (R
                                                                                                                                                                                                                  (Value.bool
                                                                                                                                                                                                                    false)
                                                                                                                                                                                                                  h74)
                                                                                                                                                                                                                (I57
                                                                                                                                                                                                                    (IntKind.wrap
                                                                                                                                                                                                                      IntKind.i64
                                                                                                                                                                                                                      (n59 +
                                                                                                                                                                                                                        (1 :
                                                                                                                                                                                                                          Int)))
                                                                                                                                                                                                                    h74 ∧
                                                                                                                                                                                                                  μ58
                                                                                                                                                                                                                      (IntKind.wrap
                                                                                                                                                                                                                        IntKind.i64
                                                                                                                                                                                                                        (n59 +
                                                                                                                                                                                                                          (1 :
                                                                                                                                                                                                                            Int)))
                                                                                                                                                                                                                      h74 <
                                                                                                                                                                                                                    μ58
                                                                                                                                                                                                                      n59
                                                                                                                                                                                                                      h60)))
                                                                                                                                                                        (I22
                                                                                                                                                                            (IntKind.wrap IntKind.i64
                                                                                                                                                                              (n24 + (1 : Int)))
                                                                                                                                                                            h60 ∧
                                                                                                                                                                          μ23
                                                                                                                                                                              (IntKind.wrap IntKind.i64
                                                                                                                                                                                (n24 + (1 : Int)))
                                                                                                                                                                              h60 <
                                                                                                                                                                            μ23 n24 h25))))))
                                                                (R (Value.bool true) h25)))))
theorem C_law07_DevicePlays (pages : Int) (script : Option Addr) (script_l : Nat) (script_c : Nat) {h : Heap} {R : Value → Heap → Prop} (H : F_law07_DevicePlays pages script script_l script_c h R) : CallsH Try.prog n_law07_DevicePlays [(.int .u8 pages), (.slice script script_l script_c)].toArray h R :=
  fn_sound (A := A_law07_DevicePlays) (Eq.mp (by kernel_rfl : F_law07_DevicePlays pages script script_l script_c h R = fnVc Go.Proofs.Try.prog A_law07_DevicePlays 5 [(.int .u8 pages), (.slice script script_l script_c)] h R) H)

/- rolodex/rolodexlaw07.DeviceStays -/
def A_law07_DeviceStays : Ann := { qs := [8, 9, 12, 13, 15, 17, 18, 19, 22, 23, 24, 26, 31], loops := [(6, [(8, (.int .i64))]), (17, [(12, .slice), (13, (.int .i64))]), (23, [(16, (.int .i64))])] }
def F_law07_DeviceStays (script : Option Addr) (script_l : Nat) (script_c : Nat) (list : Option Addr) (list_l : Nat) (list_c : Nat) (h : Heap) (R : Value → Heap → Prop) : Prop :=
  CallsH Try.prog n_law07_awake #[] h fun (v0 : Value) (h1 : Heap) =>
  Ext h h1 ∧
    ∃ (t2 : Bool),
      v0 = Value.bool t2 ∧
        br (!t2) (CallsH Try.prog n_law07_awake #[] h1 fun (v3 : Value) (h4 : Heap) => Ext h1 h4 ∧ ∃ (t5 : Bool), v3 = Value.bool t5 ∧ R (Value.bool t5) h4)
          (CallsH Try.prog n_ref07_Few #[Value.slice script script_l script_c, Value.int IntKind.i64 (80 : Int)] h1 fun (v6 : Value) (h7 : Heap) =>
            Ext h1 h7 ∧
              ∃ (t8 : Bool),
                v6 = Value.bool t8 ∧
                  br (!t8) (CallsH Try.prog n_law07_awake #[] h7 fun (v9 : Value) (h10 : Heap) => Ext h7 h10 ∧ ∃ (t11 : Bool), v9 = Value.bool t11 ∧ R (Value.bool t11) h10)
                    (br (decide ((↑list_l : Int) > (200 : Int)))
                      (CallsH Try.prog n_law07_awake #[] h7 fun (v12 : Value) (h13 : Heap) => Ext h7 h13 ∧ ∃ (t14 : Bool), v12 = Value.bool t14 ∧ R (Value.bool t14) h13)
                      (CallsH Try.prog n_device_New #[Value.int IntKind.i64 (12 : Int)] h7 fun (v15 : Value) (h16 : Heap) =>
                        Ext h7 h16 ∧
                          ∃ (p17 : Option Addr),
                            ∃ (n18 : Int),
                              v15 = Value.tuple #[Value.pointer p17, Value.int IntKind.i64 n18] ∧
                                newBlk h16 (53 : Nat) (List.toArray (List.replicate (12 : Nat) (Value.bool false))) fun (b19 : Nat) (h20 : Heap) =>
                                  ∃ (I21 : Int → Heap → Prop),
                                    ∃ (μ22 : Int → Heap → Nat),
                                      I21 (0 : Int) h20 ∧
                                        ∀ (n23 : Int) (h24 : Heap),
                                          I21 n23 h24 →
                                            br (decide (n23 < (↑script_l : Int)))
                                              ((0 : Int) ≤ n23 ∧
                                                n23 < (↑script_l : Int) ∧
                                                  deref script fun (a25 : Addr) =>
                                                    ∃ (cs26 : Array Value),
                                                      row h24 (Addr.add a25 (Int.toNat n23 * (4 : Nat))) (4 : Nat) = some cs26 ∧
                                                        newBlk h24 (46 : Nat)
                                                          #[Value.int IntKind.i64 (0 : Int), Value.int IntKind.i64 (0 : Int), Value.slice none (0 : Nat) (0 : Nat),
                                                            Value.slice none (0 : Nat) (0 : Nat)]
                                                          fun (b27 : Nat) (h28 : Heap) =>
                                                          storeP (some (4 : Nat)) h28 (Addr.mk b27 (0 : Nat) none) (Value.agg cs26) fun (h29 : Heap) =>
                                                            ∃ (n30 : Int),
                                                              cell h29 (Addr.add (Addr.mk b27 (0 : Nat) none) (0 : Nat)) = some (Value.int IntKind.i64 n30) ∧
                                                                br (n30 == (3 : Int))
                                                                  (I21 (IntKind.wrap IntKind.i64 (n23 + (1 : Int))) h29 ∧ μ22 (IntKind.wrap IntKind.i64 (n23 + (1 : Int))) h29 < μ22 n23 h24)
                                                                  (∃ (cs31 : Array Value),
                                                                    row h29 (Addr.mk b27 (0 : Nat) none) (4 : Nat) = some cs31 ∧
                                                                      CallsH Try.prog n_law07_do #[Value.pointer p17, Value.agg cs31] h29 fun (v32 : Value) (h33 : Heap) =>
                                                                        ∃ (p34 : Option Addr),
                                                                          ∃ (l35 : Nat),
                                                                            ∃ (c36 : Nat),
                                                                              ∃ (n37 : Int),
                                                                                v32 = Value.tuple #[Value.slice p34 l35 c36, Value.int IntKind.i64 n37] ∧
                                                                                  ∃ (n38 : Int),
                                                                                    cell h33 (Addr.add (Addr.mk b27 (0 : Nat) none) (0 : Nat)) = some (Value.int IntKind.i64 n38) ∧
                                                                                      br (n38 == (1 : Int))
                                                                                        (br (n37 == (0 : Int))
                                                                                          (∃ (n39 : Int),
                                                                                            cell h33 (Addr.add (Addr.mk b27 (0 : Nat) none) (1 : Nat)) = some (Value.int IntKind.i64 n39) ∧
                                                                                              (0 : Int) ≤ n39 ∧
                                                                                                n39 < (↑(12 : Nat) : Int) ∧
                                                                                                  storeP none h33 (Addr.add (Addr.mk b19 (0 : Nat) none) (Int.toNat n39 * (1 : Nat))) (Value.bool true)
                                                                                                    fun (h40 : Heap) =>
                                                                                                    ∃ (n41 : Int),
                                                                                                      cell h40 (Addr.add (Addr.mk b27 (0 : Nat) none) (0 : Nat)) = some (Value.int IntKind.i64 n41) ∧
                                                                                                        br (n41 == (2 : Int))
                                                                                                          (storeP (some (12 : Nat)) h40 (Addr.mk b19 (0 : Nat) none)
                                                                                                            (Value.agg (List.toArray (List.replicate (12 : Nat) (Value.bool false))))
                                                                                                            fun (h42 : Heap) =>
                                                                                                            I21 (IntKind.wrap IntKind.i64 (n23 + (1 : Int))) h42 ∧
                                                                                                              μ22 (IntKind.wrap IntKind.i64 (n23 + (1 : Int))) h42 < μ22 n23 h24)
                                                                                                          (∃ (n43 : Int),
                                                                                                            cell h40 (Addr.add (Addr.mk b27 (0 : Nat) none) (0 : Nat)) =
                                                                                                                some (Value.int IntKind.i64 n43) ∧
                                                                                                              br (n43 == (4 : Int))
                                                                                                                (storeP (some (12 : Nat)) h40 (Addr.mk b19 (0 : Nat) none)
                                                                                                                  (Value.agg (List.toArray (List.replicate (12 : Nat) (Value.bool false))))
                                                                                                                  fun (h44 : Heap) =>
                                                                                                                  I21 (IntKind.wrap IntKind.i64 (n23 + (1 : Int))) h44 ∧
                                                                                                                    μ22 (IntKind.wrap IntKind.i64 (n23 + (1 : Int))) h44 < μ22 n23 h24)
                                                                                                                (I21 (IntKind.wrap IntKind.i64 (n23 + (1 : Int))) h40 ∧
                                                                                                                  μ22 (IntKind.wrap IntKind.i64 (n23 + (1 : Int))) h40 < μ22 n23 h24)))
                                                                                          (∃ (n45 : Int),
                                                                                            cell h33 (Addr.add (Addr.mk b27 (0 : Nat) none) (0 : Nat)) = some (Value.int IntKind.i64 n45) ∧
                                                                                              br (n45 == (2 : Int))
                                                                                                (storeP (some (12 : Nat)) h33 (Addr.mk b19 (0 : Nat) none)
                                                                                                  (Value.agg (List.toArray (List.replicate (12 : Nat) (Value.bool false)))) fun (h46 : Heap) =>
                                                                                                  I21 (IntKind.wrap IntKind.i64 (n23 + (1 : Int))) h46 ∧
                                                                                                    μ22 (IntKind.wrap IntKind.i64 (n23 + (1 : Int))) h46 < μ22 n23 h24)
                                                                                                (∃ (n47 : Int),
                                                                                                  cell h33 (Addr.add (Addr.mk b27 (0 : Nat) none) (0 : Nat)) = some (Value.int IntKind.i64 n47) ∧
                                                                                                    br (n47 == (4 : Int))
                                                                                                      (storeP (some (12 : Nat)) h33 (Addr.mk b19 (0 : Nat) none)
                                                                                                        (Value.agg (List.toArray (List.replicate (12 : Nat) (Value.bool false)))) fun (h48 : Heap) =>
                                                                                                        I21 (IntKind.wrap IntKind.i64 (n23 + (1 : Int))) h48 ∧
                                                                                                          μ22 (IntKind.wrap IntKind.i64 (n23 + (1 : Int))) h48 < μ22 n23 h24)
                                                                                                      (I21 (IntKind.wrap IntKind.i64 (n23 + (1 : Int))) h33 ∧
                                                                                                        μ22 (IntKind.wrap IntKind.i64 (n23 + (1 : Int))) h33 < μ22 n23 h24))))
                                                                                        (∃ (n49 : Int),
                                                                                          cell h33 (Addr.add (Addr.mk b27 (0 : Nat) none) (0 : Nat)) = some (Value.int IntKind.i64 n49) ∧
                                                                                            br (n49 == (2 : Int))
                                                                                              (storeP (some (12 : Nat)) h33 (Addr.mk b19 (0 : Nat) none)
                                                                                                (Value.agg (List.toArray (List.replicate (12 : Nat) (Value.bool false)))) fun (h50 : Heap) =>
                                                                                                I21 (IntKind.wrap IntKind.i64 (n23 + (1 : Int))) h50 ∧
                                                                                                  μ22 (IntKind.wrap IntKind.i64 (n23 + (1 : Int))) h50 < μ22 n23 h24)
                                                                                              (∃ (n51 : Int),
                                                                                                cell h33 (Addr.add (Addr.mk b27 (0 : Nat) none) (0 : Nat)) = some (Value.int IntKind.i64 n51) ∧
                                                                                                  br (n51 == (4 : Int))
                                                                                                    (storeP (some (12 : Nat)) h33 (Addr.mk b19 (0 : Nat) none)
                                                                                                      (Value.agg (List.toArray (List.replicate (12 : Nat) (Value.bool false)))) fun (h52 : Heap) =>
                                                                                                      I21 (IntKind.wrap IntKind.i64 (n23 + (1 : Int))) h52 ∧
                                                                                                        μ22 (IntKind.wrap IntKind.i64 (n23 + (1 : Int))) h52 < μ22 n23 h24)
                                                                                                    (I21 (IntKind.wrap IntKind.i64 (n23 + (1 : Int))) h33 ∧
                                                                                                      μ22 (IntKind.wrap IntKind.i64 (n23 + (1 : Int))) h33 < μ22 n23 h24)))))
                                              (∃ (I53 : (Option Addr × Nat × Nat) × Int → Heap → Prop),
                                                ∃ (μ54 : (Option Addr × Nat × Nat) × Int → Heap → Nat),
                                                  I53 ((none, (0 : Nat), (0 : Nat)), (0 : Int)) h24 ∧
                                                    ∀ (s55 : (Option Addr × Nat × Nat) × Int) (h56 : Heap),
                                                      I53 s55 h56 →
                                                        br (decide (Prod.snd s55 < (12 : Int)))
                                                          (CallsH Try.prog n_device_Device_Read #[Value.pointer p17, Value.int IntKind.i64 (Prod.snd s55)] h56 fun (v57 : Value) (h58 : Heap) =>
                                                            Ext h56 h58 ∧
                                                              ∃ (p59 : Option Addr),
                                                                ∃ (l60 : Nat),
                                                                  ∃ (c61 : Nat),
                                                                    ∃ (n62 : Int),
                                                                      v57 = Value.tuple #[Value.slice p59 l60 c61, Value.int IntKind.i64 n62] ∧
                                                                        newBlk h58 (22 : Nat) #[Value.slice p59 l60 c61] fun (b63 : Nat) (h64 : Heap) =>
                                                                          appendP (22 : Nat) (1 : Nat) (24 : Nat) #[Value.slice none (0 : Nat) (0 : Nat)] (Prod.fst (Prod.fst s55))
                                                                            (Prod.fst (Prod.snd (Prod.fst s55))) (Prod.snd (Prod.snd (Prod.fst s55))) (some (Addr.mk b63 (0 : Nat) none)) (1 : Nat) h64
                                                                            fun (p65 : Option Addr) (l66 c67 : Nat) (h68 : Heap) =>
                                                                            I53 ((p65, l66, c67), IntKind.wrap IntKind.i64 (Prod.snd s55 + (1 : Int))) h68 ∧
                                                                              μ54 ((p65, l66, c67), IntKind.wrap IntKind.i64 (Prod.snd s55 + (1 : Int))) h68 < μ54 s55 h56)
                                                          (CallsH Try.prog n_device_Device_Restart #[Value.pointer p17, Value.slice list list_l list_c] h56 fun (v69 : Value) (h70 : Heap) =>
                                                            v69 = Value.tuple #[] ∧
                                                              ∃ (I71 : Int → Heap → Prop),
                                                                ∃ (μ72 : Int → Heap → Nat),
                                                                  I71 (0 : Int) h70 ∧
                                                                    ∀ (n73 : Int) (h74 : Heap),
                                                                      I71 n73 h74 →
                                                                        br (decide (n73 < (12 : Int)))
                                                                          (CallsH Try.prog n_device_Device_Read #[Value.pointer p17, Value.int IntKind.i64 n73] h74 fun (v75 : Value) (h76 : Heap) =>
                                                                            Ext h74 h76 ∧
                                                                              ∃ (p77 : Option Addr),
                                                                                ∃ (l78 : Nat),
                                                                                  ∃ (c79 : Nat),
                                                                                    ∃ (n80 : Int),
                                                                                      v75 = Value.tuple #[Value.slice p77 l78 c79, Value.int IntKind.i64 n80] ∧
                                                                                        br (n80 != (0 : Int)) (R (Value.bool false) h76)
                                                                                          ((0 : Int) ≤ n73 ∧
                                                                                            n73 < (↑(12 : Nat) : Int) ∧
                                                                                              ∃ (t81 : Bool),
                                                                                                cell h76 (Addr.add (Addr.mk b19 (0 : Nat) none) (Int.toNat n73 * (1 : Nat))) = some (Value.bool t81) ∧
                                                                                                  br (!t81)
                                                                                                    ((0 : Int) ≤ n73 ∧
                                                                                                      n73 < (↑(Prod.fst (Prod.snd (Prod.fst s55))) : Int) ∧
                                                                                                        deref (Prod.fst (Prod.fst s55)) fun (a82 : Addr) =>
                                                                                                          ∃ (p83 : Option Addr),
                                                                                                            ∃ (l84 : Nat),
                                                                                                              ∃ (c85 : Nat),
                                                                                                                cell h76 (Addr.add a82 (Int.toNat n73 * (1 : Nat))) = some (Value.slice p83 l84 c85) ∧
                                                                                                                  CallsH Try.prog n_ref01_Same #[Value.slice p77 l78 c79, Value.slice p83 l84 c85] h76
                                                                                                                    fun (v86 : Value) (h87 : Heap) =>
                                                                                                                    Ext h76 h87 ∧
                                                                                                                      ∃ (t88 : Bool),
                                                                                                                        v86 = Value.bool t88 ∧
                                                                                                                          br (!t88) (R (Value.bool false) h87)
                                                                                                                            (I71 (IntKind.wrap IntKind.i64 (n73 + (1 : Int))) h87 ∧
                                                                                                                              μ72 (IntKind.wrap IntKind.i64 (n73 + (1 : Int))) h87 < μ72 n73 h74))
                                                                                                    (I71 (IntKind.wrap IntKind.i64 (n73 + (1 : Int))) h76 ∧
                                                                                                      μ72 (IntKind.wrap IntKind.i64 (n73 + (1 : Int))) h76 < μ72 n73 h74)))
                                                                          (CallsH Try.prog n_device_Device_Waits #[Value.pointer p17] h74 fun (v89 : Value) (h90 : Heap) =>
                                                                            Ext h74 h90 ∧ ∃ (n91 : Int), v89 = Value.int IntKind.i64 n91 ∧ R (Value.bool (n91 == (0 : Int))) h90))))))
theorem C_law07_DeviceStays (script : Option Addr) (script_l : Nat) (script_c : Nat) (list : Option Addr) (list_l : Nat) (list_c : Nat) {h : Heap} {R : Value → Heap → Prop} (H : F_law07_DeviceStays script script_l script_c list list_l list_c h R) : CallsH Try.prog n_law07_DeviceStays [(.slice script script_l script_c), (.slice list list_l list_c)].toArray h R :=
  fn_sound (A := A_law07_DeviceStays) (Eq.mp (by kernel_rfl : F_law07_DeviceStays script script_l script_c list list_l list_c h R = fnVc Go.Proofs.Try.prog A_law07_DeviceStays 6 [(.slice script script_l script_c), (.slice list list_l list_c)] h R) H)

/- rolodex/rolodexlaw07.DeviceNil -/
def A_law07_DeviceNil : Ann := { qs := [8, 9, 12, 13, 15, 17, 18, 19, 22, 23, 24, 26, 31] }
def F_law07_DeviceNil (pages : Int) (i : Int) (h : Heap) (R : Value → Heap → Prop) : Prop :=
  CallsH Try.prog n_device_Device_SetFuse #[Value.pointer none, Value.int IntKind.i64 i] h fun (v0 : Value) (h1 : Heap) =>
  v0 = Value.tuple #[] ∧
    newBlk h1 (3 : Nat) #[Value.int IntKind.i64 i] fun (b2 : Nat) (h3 : Heap) =>
      CallsH Try.prog n_device_Device_Restart #[Value.pointer none, Value.slice (some (Addr.mk b2 (0 : Nat) none)) (1 : Nat) (1 : Nat)] h3 fun (v4 : Value) (h5 : Heap) =>
        v4 = Value.tuple #[] ∧
          CallsH Try.prog n_device_Device_Read #[Value.pointer none, Value.int IntKind.i64 i] h5 fun (v6 : Value) (h7 : Heap) =>
            Ext h5 h7 ∧
              ∃ (p8 : Option Addr),
                ∃ (l9 : Nat),
                  ∃ (c10 : Nat),
                    ∃ (n11 : Int),
                      v6 = Value.tuple #[Value.slice p8 l9 c10, Value.int IntKind.i64 n11] ∧
                        CallsH Try.prog n_law07_awake #[] h7 fun (v12 : Value) (h13 : Heap) =>
                          Ext h7 h13 ∧
                            ∃ (t14 : Bool),
                              v12 = Value.bool t14 ∧
                                br (!t14) (R (Value.bool false) h13)
                                  (CallsH Try.prog n_device_Device_Pages #[Value.pointer none] h13 fun (v15 : Value) (h16 : Heap) =>
                                    Ext h13 h16 ∧
                                      ∃ (n17 : Int),
                                        v15 = Value.int IntKind.i64 n17 ∧
                                          br (n17 != (0 : Int)) (R (Value.bool false) h16)
                                            (CallsH Try.prog n_device_Device_Down #[Value.pointer none] h16 fun (v18 : Value) (h19 : Heap) =>
                                              Ext h16 h19 ∧
                                                ∃ (t20 : Bool),
                                                  v18 = Value.bool t20 ∧
                                                    br (!t20) (R (Value.bool false) h19)
                                                      (CallsH Try.prog n_device_Device_Waits #[Value.pointer none] h19 fun (v21 : Value) (h22 : Heap) =>
                                                        Ext h19 h22 ∧
                                                          ∃ (n23 : Int),
                                                            v21 = Value.int IntKind.i64 n23 ∧
                                                              br (n23 != (0 : Int)) (R (Value.bool false) h22)
                                                                (br (n11 != (6 : Int)) (R (Value.bool false) h22)
                                                                  (br ((↑l9 : Int) != (0 : Int)) (R (Value.bool false) h22)
                                                                    (CallsH Try.prog n_device_Device_Write #[Value.pointer none, Value.int IntKind.i64 i, Value.slice none (0 : Nat) (0 : Nat)] h22
                                                                      fun (v24 : Value) (h25 : Heap) =>
                                                                      ∃ (n26 : Int),
                                                                        v24 = Value.int IntKind.i64 n26 ∧
                                                                          br (n26 != (6 : Int)) (R (Value.bool false) h25)
                                                                            (CallsH Try.prog n_device_Device_Flush #[Value.pointer none] h25 fun (v27 : Value) (h28 : Heap) =>
                                                                              ∃ (n29 : Int),
                                                                                v27 = Value.int IntKind.i64 n29 ∧
                                                                                  br (n29 != (6 : Int)) (R (Value.bool false) h28)
                                                                                    (br (decide (pages ≥ (0 : Int)))
                                                                                      (br (decide (pages ≤ (4096 : Int))) (R (Value.bool true) h28)
                                                                                        (CallsH Try.prog n_device_New #[Value.int IntKind.i64 pages] h28 fun (v30 : Value) (h31 : Heap) =>
                                                                                          Ext h28 h31 ∧
                                                                                            ∃ (p32 : Option Addr),
                                                                                              ∃ (n33 : Int),
                                                                                                v30 = Value.tuple #[Value.pointer p32, Value.int IntKind.i64 n33] ∧
                                                                                                  br (Option.isNone p32) (R (Value.bool (n33 == (1 : Int))) h31) (R (Value.bool false) h31)))
                                                                                      (CallsH Try.prog n_device_New #[Value.int IntKind.i64 pages] h28 fun (v34 : Value) (h35 : Heap) =>
                                                                                        Ext h28 h35 ∧
                                                                                          ∃ (p36 : Option Addr),
                                                                                            ∃ (n37 : Int),
                                                                                              v34 = Value.tuple #[Value.pointer p36, Value.int IntKind.i64 n37] ∧
                                                                                                br (Option.isNone p36) (R (Value.bool (n37 == (1 : Int))) h35) (R (Value.bool false) h35))))))))))
theorem C_law07_DeviceNil (pages : Int) (i : Int) {h : Heap} {R : Value → Heap → Prop} (H : F_law07_DeviceNil pages i h R) : CallsH Try.prog n_law07_DeviceNil [(.int .i64 pages), (.int .i64 i)].toArray h R :=
  fn_sound (A := A_law07_DeviceNil) (Eq.mp (by kernel_rfl : F_law07_DeviceNil pages i h R = fnVc Go.Proofs.Try.prog A_law07_DeviceNil 7 [(.int .i64 pages), (.int .i64 i)] h R) H)

end Go.Proofs.Ytcjcbokgcgmegaa
