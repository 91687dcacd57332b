/- The formulas of some functions, and that each is what its code comes to. Written by a program of ours. -/
import Derived.Test.YtnaeicepapokjaaVcO
import Derived.Test.YtnaeicepapokjaaNm
import Derived.Test.YtnaeicepapokjaaProg
import Derived.KernelRfl
set_option linter.unusedVariables false
set_option maxRecDepth 100000
namespace Go.Proofs.Ytnaeicepapokjaa
open Go Go.Vc Go.Proofs

/- math/bits.Len8 -/
def A_math_bits_Len8 : Ann := { qs := [9, 10, 11, 12, 13, 14, 15, 16, 17, 18, 19, 20, 21, 22, 23, 24, 25, 26, 27, 28, 29, 30, 32] }
def F_math_bits_Len8 (x : Int) (h : Heap) (R : Value → Heap → Prop) : Prop :=
  (0 : Int) ≤ x ∧
  ∃ (x0 : UInt8),
    (ByteArray.mk
            (List.toArray
              (List.append
                (List.append
                  [(0 : UInt8), (1 : UInt8), (2 : UInt8), (2 : UInt8), (3 : UInt8), (3 : UInt8), (3 : UInt8), (3 : UInt8), (4 : UInt8), (4 : UInt8), (4 : UInt8), (4 : UInt8), (4 : UInt8), (4 : UInt8),
                    (4 : UInt8), (4 : UInt8), (5 : UInt8), (5 : UInt8), (5 : UInt8), (5 : UInt8), (5 : UInt8), (5 : UInt8), (5 : UInt8), (5 : UInt8), (5 : UInt8), (5 : UInt8), (5 : UInt8),
                    (5 : UInt8), (5 : UInt8), (5 : UInt8), (5 : UInt8), (5 : UInt8), (6 : UInt8), (6 : UInt8), (6 : UInt8), (6 : UInt8), (6 : UInt8), (6 : UInt8), (6 : UInt8), (6 : UInt8),
                    (6 : UInt8), (6 : UInt8), (6 : UInt8), (6 : UInt8), (6 : UInt8), (6 : UInt8), (6 : UInt8), (6 : UInt8), (6 : UInt8), (6 : UInt8), (6 : UInt8), (6 : UInt8), (6 : UInt8),
                    (6 : UInt8), (6 : UInt8), (6 : UInt8), (6 : UInt8), (6 : UInt8), (6 : UInt8), (6 : UInt8), (6 : UInt8), (6 : UInt8), (6 : UInt8), (6 : UInt8)]
                  [(7 : UInt8), (7 : UInt8), (7 : UInt8), (7 : UInt8), (7 : UInt8), (7 : UInt8), (7 : UInt8), (7 : UInt8), (7 : UInt8), (7 : UInt8), (7 : UInt8), (7 : UInt8), (7 : UInt8), (7 : UInt8),
                    (7 : UInt8), (7 : UInt8), (7 : UInt8), (7 : UInt8), (7 : UInt8), (7 : UInt8), (7 : UInt8), (7 : UInt8), (7 : UInt8), (7 : UInt8), (7 : UInt8), (7 : UInt8), (7 : UInt8),
                    (7 : UInt8), (7 : UInt8), (7 : UInt8), (7 : UInt8), (7 : UInt8), (7 : UInt8), (7 : UInt8), (7 : UInt8), (7 : UInt8), (7 : UInt8), (7 : UInt8), (7 : UInt8), (7 : UInt8),
                    (7 : UInt8), (7 : UInt8), (7 : UInt8), (7 : UInt8), (7 : UInt8), (7 : UInt8), (7 : UInt8), (7 : UInt8), (7 : UInt8), (7 : UInt8), (7 : UInt8), (7 : UInt8), (7 : UInt8),
                    (7 : UInt8), (7 : UInt8), (7 : UInt8), (7 : UInt8), (7 : UInt8), (7 : UInt8), (7 : UInt8), (7 : UInt8), (7 : UInt8), (7 : UInt8), (7 : UInt8)])
                (List.append
                  [(8 : UInt8), (8 : UInt8), (8 : UInt8), (8 : UInt8), (8 : UInt8), (8 : UInt8), (8 : UInt8), (8 : UInt8), (8 : UInt8), (8 : UInt8), (8 : UInt8), (8 : UInt8), (8 : UInt8), (8 : UInt8),
                    (8 : UInt8), (8 : UInt8), (8 : UInt8), (8 : UInt8), (8 : UInt8), (8 : UInt8), (8 : UInt8), (8 : UInt8), (8 : UInt8), (8 : UInt8), (8 : UInt8), (8 : UInt8), (8 : UInt8),
                    (8 : UInt8), (8 : UInt8), (8 : UInt8), (8 : UInt8), (8 : UInt8), (8 : UInt8), (8 : UInt8), (8 : UInt8), (8 : UInt8), (8 : UInt8), (8 : UInt8), (8 : UInt8), (8 : UInt8),
                    (8 : UInt8), (8 : UInt8), (8 : UInt8), (8 : UInt8), (8 : UInt8), (8 : UInt8), (8 : UInt8), (8 : UInt8), (8 : UInt8), (8 : UInt8), (8 : UInt8), (8 : UInt8), (8 : UInt8),
                    (8 : UInt8), (8 : UInt8), (8 : UInt8), (8 : UInt8), (8 : UInt8), (8 : UInt8), (8 : UInt8), (8 : UInt8), (8 : UInt8), (8 : UInt8), (8 : UInt8)]
                  [(8 : UInt8), (8 : UInt8), (8 : UInt8), (8 : UInt8), (8 : UInt8), (8 : UInt8), (8 : UInt8), (8 : UInt8), (8 : UInt8), (8 : UInt8), (8 : UInt8), (8 : UInt8), (8 : UInt8), (8 : UInt8),
                    (8 : UInt8), (8 : UInt8), (8 : UInt8), (8 : UInt8), (8 : UInt8), (8 : UInt8), (8 : UInt8), (8 : UInt8), (8 : UInt8), (8 : UInt8), (8 : UInt8), (8 : UInt8), (8 : UInt8),
                    (8 : UInt8), (8 : UInt8), (8 : UInt8), (8 : UInt8), (8 : UInt8), (8 : UInt8), (8 : UInt8), (8 : UInt8), (8 : UInt8), (8 : UInt8), (8 : UInt8), (8 : UInt8), (8 : UInt8),
                    (8 : UInt8), (8 : UInt8), (8 : UInt8), (8 : UInt8), (8 : UInt8), (8 : UInt8), (8 : UInt8), (8 : UInt8), (8 : UInt8), (8 : UInt8), (8 : UInt8), (8 : UInt8), (8 : UInt8),
                    (8 : UInt8), (8 : UInt8), (8 : UInt8), (8 : UInt8), (8 : UInt8), (8 : UInt8), (8 : UInt8), (8 : UInt8), (8 : UInt8), (8 : UInt8), (8 : UInt8)]))))[Int.toNat x]? =
        some x0 ∧
      R (Value.int IntKind.i64 (IntKind.wrap IntKind.i64 (↑(UInt8.toNat x0) : Int))) h
theorem C_math_bits_Len8 (x : Int) {h : Heap} {R : Value → Heap → Prop} (H : F_math_bits_Len8 x h R) : CallsH Try.prog n_math_bits_Len8 [(.int .u8 x)].toArray h R :=
  fn_sound (A := A_math_bits_Len8) (Eq.mp (by kernel_rfl : F_math_bits_Len8 x h R = fnVc Go.Proofs.Try.prog A_math_bits_Len8 32 [(.int .u8 x)] h R) H)

/- math/bits.LeadingZeros8 -/
def A_math_bits_LeadingZeros8 : Ann := { qs := [9, 10, 11, 12, 13, 14, 15, 16, 17, 18, 19, 20, 21, 22, 23, 24, 25, 26, 27, 28, 29, 30, 32] }
def F_math_bits_LeadingZeros8 (x : Int) (h : Heap) (R : Value → Heap → Prop) : Prop :=
  CallsH Try.prog n_math_bits_Len8 #[Value.int IntKind.u8 x] h fun (v0 : Value) (h1 : Heap) =>
  Ext h h1 ∧ ∃ (n2 : Int), v0 = Value.int IntKind.i64 n2 ∧ R (Value.int IntKind.i64 (IntKind.wrap IntKind.i64 ((8 : Int) - n2))) h1
theorem C_math_bits_LeadingZeros8 (x : Int) {h : Heap} {R : Value → Heap → Prop} (H : F_math_bits_LeadingZeros8 x h R) : CallsH Try.prog n_math_bits_LeadingZeros8 [(.int .u8 x)].toArray h R :=
  fn_sound (A := A_math_bits_LeadingZeros8) (Eq.mp (by kernel_rfl : F_math_bits_LeadingZeros8 x h R = fnVc Go.Proofs.Try.prog A_math_bits_LeadingZeros8 30 [(.int .u8 x)] h R) H)

/- bytes.Compare -/
def A_bytes_Compare : Ann := { qs := [9, 10, 11, 12, 13, 14, 15, 16, 17, 18, 19, 20, 21, 22, 23, 24, 25, 26, 27, 28, 29, 30, 32] }
def F_bytes_Compare (a : Option Addr) (a_l : Nat) (a_c : Nat) (b : Option Addr) (b_l : Nat) (b_c : Nat) (h : Heap) (R : Value → Heap → Prop) : Prop :=
  ∃ (x0 : List UInt8), ∃ (x1 : List UInt8), src h a a_l = some (List.toArray (bcs x0)) ∧ src h b b_l = some (List.toArray (bcs x1)) ∧ R (Value.int IntKind.i64 (Lib.compareBytes x0 x1)) h
theorem C_bytes_Compare (a : Option Addr) (a_l : Nat) (a_c : Nat) (b : Option Addr) (b_l : Nat) (b_c : Nat) {h : Heap} {R : Value → Heap → Prop} (H : F_bytes_Compare a a_l a_c b b_l b_c h R) : CallsH Try.prog n_bytes_Compare [(.slice a a_l a_c), (.slice b b_l b_c)].toArray h R :=
  fn_sound (A := A_bytes_Compare) (Eq.mp (by kernel_rfl : F_bytes_Compare a a_l a_c b b_l b_c h R = fnVc Go.Proofs.Try.prog A_bytes_Compare 28 [(.slice a a_l a_c), (.slice b b_l b_c)] h R) H)

/- rolodex/prefix.Less -/
def A_prefix_Less : Ann := { qs := [9, 10, 11, 12, 13, 14, 15, 16, 17, 18, 19, 20, 21, 22, 23, 24, 25, 26, 27, 28, 29, 30, 32], plans := [(1, (.take 0 (.take 1 (.alt 2 (.take 3 (.take 4 .done)) .stop))))] }
def F_prefix_Less (a : Array Value) (b : Array Value) (h : Heap) (R : Value → Heap → Prop) : Prop :=
  newBlk h (23 : Nat) a fun (b0 : Nat) (h1 : Heap) =>
  newBlk h1 (23 : Nat) b fun (b2 : Nat) (h3 : Heap) =>
    sliceP (1 : Nat) (some (Addr.mk b0 (0 : Nat) none)) (0 : Int) (↑(32 : Nat) : Int) (↑(32 : Nat) : Int) (32 : Nat) fun (p4 : Option Addr) (l5 c6 : Nat) =>
      sliceP (1 : Nat) (some (Addr.mk b2 (0 : Nat) none)) (0 : Int) (↑(32 : Nat) : Int) (↑(32 : Nat) : Int) (32 : Nat) fun (p7 : Option Addr) (l8 c9 : Nat) =>
        CallsH Try.prog n_bytes_Compare #[Value.slice p4 l5 c6, Value.slice p7 l8 c9] h3 fun (v10 : Value) (h11 : Heap) =>
          Ext h3 h11 ∧ ∃ (n12 : Int), v10 = Value.int IntKind.i64 n12 ∧ R (Value.bool (decide (n12 < (0 : Int)))) h11
theorem C_prefix_Less (a : Array Value) (b : Array Value) {h : Heap} {R : Value → Heap → Prop} (H : F_prefix_Less a b h R) : CallsH Try.prog n_prefix_Less [(.agg a), (.agg b)].toArray h R :=
  fn_sound (A := A_prefix_Less) (Eq.mp (by kernel_rfl : F_prefix_Less a b h R = fnVc Go.Proofs.Try.prog A_prefix_Less 9 [(.agg a), (.agg b)] h R) H)

/- rolodex/prefix.Child -/
def A_prefix_Child : Ann := { qs := [9, 10, 11, 12, 13, 14, 15, 16, 17, 18, 19, 20, 21, 22, 23, 24, 25, 26, 27, 28, 29, 30, 32], plans := [(4, (.take 0 (.take 1 (.take 2 (.take 3 (.take 4 (.take 5 (.take 6 (.take 7 (.take 8 (.take 9 (.take 10 (.take 11 (.take 12 (.alt 13 .done .stop)))))))))))))))] }
def F_prefix_Child (p : Array Value) (bit : Int) (h : Heap) (R : Value → Heap → Prop) : Prop :=
  newBlk h (28 : Nat) p fun (b0 : Nat) (h1 : Heap) =>
  newBlk h1 (28 : Nat) (List.toArray (Value.int IntKind.i64 (0 : Int) :: List.replicate (32 : Nat) (Value.int IntKind.u8 (0 : Int)))) fun (b2 : Nat) (h3 : Heap) =>
    ∃ (cs4 : Array Value),
      row h3 (Addr.mk b0 (0 : Nat) none) (33 : Nat) = some cs4 ∧
        CallsH Try.prog n_prefix_Formed #[Value.agg cs4] h3 fun (v5 : Value) (h6 : Heap) =>
          Ext h3 h6 ∧
            ∃ (t7 : Bool),
              v5 = Value.bool t7 ∧
                br (!t7)
                  (storeP (some (33 : Nat)) h6 (Addr.mk b2 (0 : Nat) none) (Value.agg (List.toArray (Value.int IntKind.i64 (0 : Int) :: List.replicate (32 : Nat) (Value.int IntKind.u8 (0 : Int)))))
                    fun (h8 : Heap) => ∃ (cs9 : Array Value), row h8 (Addr.mk b2 (0 : Nat) none) (33 : Nat) = some cs9 ∧ R (Value.tuple #[Value.agg cs9, Value.bool false]) h8)
                  (∃ (n10 : Int),
                    cell h6 (Addr.add (Addr.mk b0 (0 : Nat) none) (0 : Nat)) = some (Value.int IntKind.i64 n10) ∧
                      br (n10 == (256 : Int))
                        (storeP (some (33 : Nat)) h6 (Addr.mk b2 (0 : Nat) none)
                          (Value.agg (List.toArray (Value.int IntKind.i64 (0 : Int) :: List.replicate (32 : Nat) (Value.int IntKind.u8 (0 : Int))))) fun (h11 : Heap) =>
                          ∃ (cs12 : Array Value), row h11 (Addr.mk b2 (0 : Nat) none) (33 : Nat) = some cs12 ∧ R (Value.tuple #[Value.agg cs12, Value.bool false]) h11)
                        (br (decide (bit < (0 : Int)))
                          (storeP (some (33 : Nat)) h6 (Addr.mk b2 (0 : Nat) none)
                            (Value.agg (List.toArray (Value.int IntKind.i64 (0 : Int) :: List.replicate (32 : Nat) (Value.int IntKind.u8 (0 : Int))))) fun (h13 : Heap) =>
                            ∃ (cs14 : Array Value), row h13 (Addr.mk b2 (0 : Nat) none) (33 : Nat) = some cs14 ∧ R (Value.tuple #[Value.agg cs14, Value.bool false]) h13)
                          (br (decide (bit > (1 : Int)))
                            (storeP (some (33 : Nat)) h6 (Addr.mk b2 (0 : Nat) none)
                              (Value.agg (List.toArray (Value.int IntKind.i64 (0 : Int) :: List.replicate (32 : Nat) (Value.int IntKind.u8 (0 : Int))))) fun (h15 : Heap) =>
                              ∃ (cs16 : Array Value), row h15 (Addr.mk b2 (0 : Nat) none) (33 : Nat) = some cs16 ∧ R (Value.tuple #[Value.agg cs16, Value.bool false]) h15)
                            (br (bit == (1 : Int))
                              (∃ (n17 : Int),
                                cell h6 (Addr.add (Addr.mk b0 (0 : Nat) none) (0 : Nat)) = some (Value.int IntKind.i64 n17) ∧
                                  (8 : Int) ≠ (0 : Int) ∧
                                    (0 : Int) ≤ IntKind.wrap IntKind.i64 (Int.tdiv n17 (8 : Int)) ∧
                                      IntKind.wrap IntKind.i64 (Int.tdiv n17 (8 : Int)) < (↑(32 : Nat) : Int) ∧
                                        ∃ (n18 : Int),
                                          cell h6 (Addr.add (Addr.add (Addr.mk b0 (0 : Nat) none) (1 : Nat)) (Int.toNat (IntKind.wrap IntKind.i64 (Int.tdiv n17 (8 : Int))) * (1 : Nat))) =
                                              some (Value.int IntKind.u8 n18) ∧
                                            ∃ (n19 : Int),
                                              cell h6 (Addr.add (Addr.mk b0 (0 : Nat) none) (0 : Nat)) = some (Value.int IntKind.i64 n19) ∧
                                                (8 : Int) ≠ (0 : Int) ∧
                                                  (0 : Int) ≤ Int.tmod n19 (8 : Int) ∧
                                                    (0 : Int) ≤ IntKind.wrap IntKind.i64 (Int.tdiv n17 (8 : Int)) ∧
                                                      IntKind.wrap IntKind.i64 (Int.tdiv n17 (8 : Int)) < (↑(32 : Nat) : Int) ∧
                                                        storeP none h6
                                                          (Addr.add (Addr.add (Addr.mk b0 (0 : Nat) none) (1 : Nat)) (Int.toNat (IntKind.wrap IntKind.i64 (Int.tdiv n17 (8 : Int))) * (1 : Nat)))
                                                          (Value.int IntKind.u8 (orI IntKind.u8 n18 (shrI IntKind.u8 (128 : Int) (Int.tmod n19 (8 : Int))))) fun (h20 : Heap) =>
                                                          ∃ (n21 : Int),
                                                            cell h20 (Addr.add (Addr.mk b0 (0 : Nat) none) (0 : Nat)) = some (Value.int IntKind.i64 n21) ∧
                                                              storeP none h20 (Addr.mk b0 (0 : Nat) none) (Value.int IntKind.i64 (IntKind.wrap IntKind.i64 (n21 + (1 : Int)))) fun (h22 : Heap) =>
                                                                ∃ (cs23 : Array Value),
                                                                  row h22 (Addr.mk b0 (0 : Nat) none) (33 : Nat) = some cs23 ∧
                                                                    storeP (some (33 : Nat)) h22 (Addr.mk b2 (0 : Nat) none) (Value.agg cs23) fun (h24 : Heap) =>
                                                                      ∃ (cs25 : Array Value),
                                                                        row h24 (Addr.mk b2 (0 : Nat) none) (33 : Nat) = some cs25 ∧ R (Value.tuple #[Value.agg cs25, Value.bool true]) h24)
                              (∃ (n26 : Int),
                                cell h6 (Addr.add (Addr.mk b0 (0 : Nat) none) (0 : Nat)) = some (Value.int IntKind.i64 n26) ∧
                                  storeP none h6 (Addr.mk b0 (0 : Nat) none) (Value.int IntKind.i64 (IntKind.wrap IntKind.i64 (n26 + (1 : Int)))) fun (h27 : Heap) =>
                                    ∃ (cs28 : Array Value),
                                      row h27 (Addr.mk b0 (0 : Nat) none) (33 : Nat) = some cs28 ∧
                                        storeP (some (33 : Nat)) h27 (Addr.mk b2 (0 : Nat) none) (Value.agg cs28) fun (h29 : Heap) =>
                                          ∃ (cs30 : Array Value), row h29 (Addr.mk b2 (0 : Nat) none) (33 : Nat) = some cs30 ∧ R (Value.tuple #[Value.agg cs30, Value.bool true]) h29)))))
theorem C_prefix_Child (p : Array Value) (bit : Int) {h : Heap} {R : Value → Heap → Prop} (H : F_prefix_Child p bit h R) : CallsH Try.prog n_prefix_Child [(.agg p), (.int .i64 bit)].toArray h R :=
  fn_sound (A := A_prefix_Child) (Eq.mp (by kernel_rfl : F_prefix_Child p bit h R = fnVc Go.Proofs.Try.prog A_prefix_Child 11 [(.agg p), (.int .i64 bit)] h R) H)

/- rolodex/prefix.Cut -/
def A_prefix_Cut : Ann := { qs := [9, 10, 11, 12, 13, 14, 15, 16, 17, 18, 19, 20, 21, 22, 23, 24, 25, 26, 27, 28, 29, 30, 32], loops := [(3, [(10, (.int .i64))])], plans := [(7, (.take 0 (.take 1 (.take 2 (.take 3 (.take 4 (.take 5 (.take 6 (.take 7 (.alt 8 .done .stop))))))))))] }
def F_prefix_Cut (k : Array Value) (n : Int) (h : Heap) (R : Value → Heap → Prop) : Prop :=
  newBlk h (23 : Nat) k fun (b0 : Nat) (h1 : Heap) =>
  newBlk h1 (28 : Nat) (List.toArray (Value.int IntKind.i64 (0 : Int) :: List.replicate (32 : Nat) (Value.int IntKind.u8 (0 : Int)))) fun (b2 : Nat) (h3 : Heap) =>
    ∃ (I4 : Int → Heap → Prop),
      ∃ (μ5 : Int → Heap → Nat),
        I4 (0 : Int) h3 ∧
          ∀ (n6 : Int) (h7 : Heap),
            I4 n6 h7 →
              br (decide (n6 < (32 : Int)))
                (br (decide (minI (maxI (IntKind.wrap IntKind.i64 (minI (maxI n (0 : Int)) (256 : Int) - IntKind.wrap IntKind.i64 ((8 : Int) * n6))) (0 : Int)) (8 : Int) < (8 : Int)))
                  ((0 : Int) ≤ n6 ∧
                    n6 < (↑(32 : Nat) : Int) ∧
                      ∃ (n8 : Int),
                        cell h7 (Addr.add (Addr.mk b0 (0 : Nat) none) (Int.toNat n6 * (1 : Nat))) = some (Value.int IntKind.u8 n8) ∧
                          (0 : Int) ≤ minI (maxI (IntKind.wrap IntKind.i64 (minI (maxI n (0 : Int)) (256 : Int) - IntKind.wrap IntKind.i64 ((8 : Int) * n6))) (0 : Int)) (8 : Int) ∧
                            (0 : Int) ≤ n6 ∧
                              n6 < (↑(32 : Nat) : Int) ∧
                                storeP none h7 (Addr.add (Addr.mk b0 (0 : Nat) none) (Int.toNat n6 * (1 : Nat)))
                                  (Value.int IntKind.u8
                                    (andI IntKind.u8 n8
                                      (xorI IntKind.u8 (if IntKind.signed IntKind.u8 = true then (-1 : Int) else IntKind.max IntKind.u8)
                                        (shrI IntKind.u8 (255 : Int)
                                          (minI (maxI (IntKind.wrap IntKind.i64 (minI (maxI n (0 : Int)) (256 : Int) - IntKind.wrap IntKind.i64 ((8 : Int) * n6))) (0 : Int)) (8 : Int))))))
                                  fun (h9 : Heap) => I4 (IntKind.wrap IntKind.i64 (n6 + (1 : Int))) h9 ∧ μ5 (IntKind.wrap IntKind.i64 (n6 + (1 : Int))) h9 < μ5 n6 h7)
                  (I4 (IntKind.wrap IntKind.i64 (n6 + (1 : Int))) h7 ∧ μ5 (IntKind.wrap IntKind.i64 (n6 + (1 : Int))) h7 < μ5 n6 h7))
                (∃ (cs10 : Array Value),
                  row h7 (Addr.mk b0 (0 : Nat) none) (32 : Nat) = some cs10 ∧
                    Array.size cs10 = (32 : Nat) ∧
                      storeP (some (33 : Nat)) h7 (Addr.mk b2 (0 : Nat) none) (Value.agg (List.toArray (Value.int IntKind.i64 (minI (maxI n (0 : Int)) (256 : Int)) :: (Array.toList cs10 ++ []))))
                        fun (h11 : Heap) => ∃ (cs12 : Array Value), row h11 (Addr.mk b2 (0 : Nat) none) (33 : Nat) = some cs12 ∧ R (Value.agg cs12) h11)
theorem C_prefix_Cut (k : Array Value) (n : Int) {h : Heap} {R : Value → Heap → Prop} (H : F_prefix_Cut k n h R) : CallsH Try.prog n_prefix_Cut [(.agg k), (.int .i64 n)].toArray h R :=
  fn_sound (A := A_prefix_Cut) (Eq.mp (by kernel_rfl : F_prefix_Cut k n h R = fnVc Go.Proofs.Try.prog A_prefix_Cut 13 [(.agg k), (.int .i64 n)] h R) H)

/- rolodex/prefix.Formed -/
def A_prefix_Formed : Ann := { qs := [9, 10, 11, 12, 13, 14, 15, 16, 17, 18, 19, 20, 21, 22, 23, 24, 25, 26, 27, 28, 29, 30, 32], plans := [(1, (.take 0 (.take 1 (.take 2 (.take 3 (.take 4 (.take 5 (.take 6 (.take 7 (.take 8 (.take 9 (.take 10 (.take 11 (.take 12 (.take 14 (.alt 13 (.take 15 (.take 16 (.take 17 .done))) .stop))))))))))))))))] }
def F_prefix_Formed (p : Array Value) (h : Heap) (R : Value → Heap → Prop) : Prop :=
  newBlk h (28 : Nat) p fun (b0 : Nat) (h1 : Heap) =>
  ∃ (n2 : Int),
    cell h1 (Addr.add (Addr.mk b0 (0 : Nat) none) (0 : Nat)) = some (Value.int IntKind.i64 n2) ∧
      br (decide (n2 ≥ (0 : Int)))
        (∃ (n3 : Int),
          cell h1 (Addr.add (Addr.mk b0 (0 : Nat) none) (0 : Nat)) = some (Value.int IntKind.i64 n3) ∧
            br (decide (n3 ≤ (256 : Int)))
              (∃ (cs4 : Array Value),
                row h1 (Addr.add (Addr.mk b0 (0 : Nat) none) (1 : Nat)) (32 : Nat) = some cs4 ∧
                  ∃ (n5 : Int),
                    cell h1 (Addr.add (Addr.mk b0 (0 : Nat) none) (0 : Nat)) = some (Value.int IntKind.i64 n5) ∧
                      ∃ (cs6 : Array Value),
                        row h1 (Addr.mk b0 (0 : Nat) none) (33 : Nat) = some cs6 ∧
                          CallsH Try.prog n_prefix_Cut #[Value.agg cs4, Value.int IntKind.i64 n5] h1 fun (v7 : Value) (h8 : Heap) =>
                            Ext h1 h8 ∧ ∃ (cs9 : Array Value), Array.size cs9 = (33 : Nat) ∧ v7 = Value.agg cs9 ∧ eqAgg Try.prog (28 : Nat) cs9 cs6 fun (t10 : Bool) => R (Value.bool t10) h8)
              (R (Value.bool false) h1))
        (R (Value.bool false) h1)
theorem C_prefix_Formed (p : Array Value) {h : Heap} {R : Value → Heap → Prop} (H : F_prefix_Formed p h R) : CallsH Try.prog n_prefix_Formed [(.agg p)].toArray h R :=
  fn_sound (A := A_prefix_Formed) (Eq.mp (by kernel_rfl : F_prefix_Formed p h R = fnVc Go.Proofs.Try.prog A_prefix_Formed 15 [(.agg p)] h R) H)

/- rolodex/prefix.Holds -/
def A_prefix_Holds : Ann := { qs := [9, 10, 11, 12, 13, 14, 15, 16, 17, 18, 19, 20, 21, 22, 23, 24, 25, 26, 27, 28, 29, 30, 32], plans := [(1, (.take 0 (.alt 1 (.take 2 (.take 3 (.take 4 (.take 5 (.take 7 (.alt 6 (.take 8 (.take 9 (.take 10 .done))) .stop)))))) .stop)))] }
def F_prefix_Holds (p : Array Value) (k : Array Value) (h : Heap) (R : Value → Heap → Prop) : Prop :=
  newBlk h (28 : Nat) p fun (b0 : Nat) (h1 : Heap) =>
  newBlk h1 (23 : Nat) k fun (b2 : Nat) (h3 : Heap) =>
    ∃ (cs4 : Array Value),
      row h3 (Addr.mk b0 (0 : Nat) none) (33 : Nat) = some cs4 ∧
        CallsH Try.prog n_prefix_Formed #[Value.agg cs4] h3 fun (v5 : Value) (h6 : Heap) =>
          Ext h3 h6 ∧
            ∃ (t7 : Bool),
              v5 = Value.bool t7 ∧
                br t7
                  (∃ (cs8 : Array Value),
                    row h6 (Addr.mk b2 (0 : Nat) none) (32 : Nat) = some cs8 ∧
                      ∃ (n9 : Int),
                        cell h6 (Addr.add (Addr.mk b0 (0 : Nat) none) (0 : Nat)) = some (Value.int IntKind.i64 n9) ∧
                          ∃ (cs10 : Array Value),
                            row h6 (Addr.mk b0 (0 : Nat) none) (33 : Nat) = some cs10 ∧
                              CallsH Try.prog n_prefix_Cut #[Value.agg cs8, Value.int IntKind.i64 n9] h6 fun (v11 : Value) (h12 : Heap) =>
                                Ext h6 h12 ∧
                                  ∃ (cs13 : Array Value), Array.size cs13 = (33 : Nat) ∧ v11 = Value.agg cs13 ∧ eqAgg Try.prog (28 : Nat) cs13 cs10 fun (t14 : Bool) => R (Value.bool t14) h12)
                  (R (Value.bool false) h6)
theorem C_prefix_Holds (p : Array Value) (k : Array Value) {h : Heap} {R : Value → Heap → Prop} (H : F_prefix_Holds p k h R) : CallsH Try.prog n_prefix_Holds [(.agg p), (.agg k)].toArray h R :=
  fn_sound (A := A_prefix_Holds) (Eq.mp (by kernel_rfl : F_prefix_Holds p k h R = fnVc Go.Proofs.Try.prog A_prefix_Holds 17 [(.agg p), (.agg k)] h R) H)

/- rolodex/prefix.Shared -/
def A_prefix_Shared : Ann := { qs := [9, 10, 11, 12, 13, 14, 15, 16, 17, 18, 19, 20, 21, 22, 23, 24, 25, 26, 27, 28, 29, 30, 32], loops := [(2, [(7, (.int .i64))])], plans := [(4, (.take 0 (.take 1 (.take 2 (.take 3 (.take 4 (.take 5 (.take 6 (.take 7 .done)))))))))] }
def F_prefix_Shared (a : Array Value) (b : Array Value) (h : Heap) (R : Value → Heap → Prop) : Prop :=
  newBlk h (23 : Nat) a fun (b0 : Nat) (h1 : Heap) =>
  newBlk h1 (23 : Nat) b fun (b2 : Nat) (h3 : Heap) =>
    ∃ (I4 : Int → Heap → Prop),
      ∃ (μ5 : Int → Heap → Nat),
        I4 (0 : Int) h3 ∧
          ∀ (n6 : Int) (h7 : Heap),
            I4 n6 h7 →
              br (decide (n6 < (32 : Int)))
                ((0 : Int) ≤ n6 ∧
                  n6 < (↑(32 : Nat) : Int) ∧
                    ∃ (n8 : Int),
                      cell h7 (Addr.add (Addr.mk b0 (0 : Nat) none) (Int.toNat n6 * (1 : Nat))) = some (Value.int IntKind.u8 n8) ∧
                        (0 : Int) ≤ n6 ∧
                          n6 < (↑(32 : Nat) : Int) ∧
                            ∃ (n9 : Int),
                              cell h7 (Addr.add (Addr.mk b2 (0 : Nat) none) (Int.toNat n6 * (1 : Nat))) = some (Value.int IntKind.u8 n9) ∧
                                br (xorI IntKind.u8 n8 n9 != (0 : Int))
                                  (CallsH Try.prog n_math_bits_LeadingZeros8 #[Value.int IntKind.u8 (xorI IntKind.u8 n8 n9)] h7 fun (v10 : Value) (h11 : Heap) =>
                                    Ext h7 h11 ∧
                                      ∃ (n12 : Int), v10 = Value.int IntKind.i64 n12 ∧ R (Value.int IntKind.i64 (IntKind.wrap IntKind.i64 (IntKind.wrap IntKind.i64 ((8 : Int) * n6) + n12))) h11)
                                  (I4 (IntKind.wrap IntKind.i64 (n6 + (1 : Int))) h7 ∧ μ5 (IntKind.wrap IntKind.i64 (n6 + (1 : Int))) h7 < μ5 n6 h7))
                (R (Value.int IntKind.i64 (256 : Int)) h7)
theorem C_prefix_Shared (a : Array Value) (b : Array Value) {h : Heap} {R : Value → Heap → Prop} (H : F_prefix_Shared a b h R) : CallsH Try.prog n_prefix_Shared [(.agg a), (.agg b)].toArray h R :=
  fn_sound (A := A_prefix_Shared) (Eq.mp (by kernel_rfl : F_prefix_Shared a b h R = fnVc Go.Proofs.Try.prog A_prefix_Shared 19 [(.agg a), (.agg b)] h R) H)

/- rolodex/prefix.Bit -/
def A_prefix_Bit : Ann := { qs := [9, 10, 11, 12, 13, 14, 15, 16, 17, 18, 19, 20, 21, 22, 23, 24, 25, 26, 27, 28, 29, 30, 32] }
def F_prefix_Bit (k : Array Value) (i : Int) (h : Heap) (R : Value → Heap → Prop) : Prop :=
  newBlk h (23 : Nat) k fun (b0 : Nat) (h1 : Heap) =>
  br (decide (i < (0 : Int))) (R (Value.int IntKind.i64 (0 : Int)) h1)
    (br (decide (i ≥ (256 : Int))) (R (Value.int IntKind.i64 (0 : Int)) h1)
      ((8 : Int) ≠ (0 : Int) ∧
        (0 : Int) ≤ IntKind.wrap IntKind.i64 (Int.tdiv i (8 : Int)) ∧
          IntKind.wrap IntKind.i64 (Int.tdiv i (8 : Int)) < (↑(32 : Nat) : Int) ∧
            ∃ (n2 : Int),
              cell h1 (Addr.add (Addr.mk b0 (0 : Nat) none) (Int.toNat (IntKind.wrap IntKind.i64 (Int.tdiv i (8 : Int))) * (1 : Nat))) = some (Value.int IntKind.u8 n2) ∧
                (8 : Int) ≠ (0 : Int) ∧
                  (0 : Int) ≤ IntKind.wrap IntKind.i64 ((7 : Int) - Int.tmod i (8 : Int)) ∧
                    R (Value.int IntKind.i64 (IntKind.wrap IntKind.i64 (andI IntKind.u8 (shrI IntKind.u8 n2 (IntKind.wrap IntKind.i64 ((7 : Int) - Int.tmod i (8 : Int)))) (1 : Int)))) h1))
theorem C_prefix_Bit (k : Array Value) (i : Int) {h : Heap} {R : Value → Heap → Prop} (H : F_prefix_Bit k i h R) : CallsH Try.prog n_prefix_Bit [(.agg k), (.int .i64 i)].toArray h R :=
  fn_sound (A := A_prefix_Bit) (Eq.mp (by kernel_rfl : F_prefix_Bit k i h R = fnVc Go.Proofs.Try.prog A_prefix_Bit 20 [(.agg k), (.int .i64 i)] h R) H)

/- rolodex/prefix.Meet -/
def A_prefix_Meet : Ann := { qs := [9, 10, 11, 12, 13, 14, 15, 16, 17, 18, 19, 20, 21, 22, 23, 24, 25, 26, 27, 28, 29, 30, 32], plans := [(3, (.take 0 (.take 1 (.take 2 (.take 3 (.take 4 (.take 5 (.take 7 (.take 8 (.take 9 (.take 10 (.alt 6 (.take 11 (.alt 12 (.alt 13 .done .stop) .stop)) .stop))))))))))))] }
def F_prefix_Meet (p : Array Value) (q : Array Value) (h : Heap) (R : Value → Heap → Prop) : Prop :=
  newBlk h (28 : Nat) p fun (b0 : Nat) (h1 : Heap) =>
  newBlk h1 (28 : Nat) q fun (b2 : Nat) (h3 : Heap) =>
    newBlk h3 (28 : Nat) (List.toArray (Value.int IntKind.i64 (0 : Int) :: List.replicate (32 : Nat) (Value.int IntKind.u8 (0 : Int)))) fun (b4 : Nat) (h5 : Heap) =>
      ∃ (cs6 : Array Value),
        row h5 (Addr.mk b0 (0 : Nat) none) (33 : Nat) = some cs6 ∧
          CallsH Try.prog n_prefix_Formed #[Value.agg cs6] h5 fun (v7 : Value) (h8 : Heap) =>
            Ext h5 h8 ∧
              ∃ (t9 : Bool),
                v7 = Value.bool t9 ∧
                  br (!t9)
                    (storeP (some (33 : Nat)) h8 (Addr.mk b4 (0 : Nat) none) (Value.agg (List.toArray (Value.int IntKind.i64 (0 : Int) :: List.replicate (32 : Nat) (Value.int IntKind.u8 (0 : Int)))))
                      fun (h10 : Heap) => ∃ (cs11 : Array Value), row h10 (Addr.mk b4 (0 : Nat) none) (33 : Nat) = some cs11 ∧ R (Value.agg cs11) h10)
                    (∃ (cs12 : Array Value),
                      row h8 (Addr.mk b2 (0 : Nat) none) (33 : Nat) = some cs12 ∧
                        CallsH Try.prog n_prefix_Formed #[Value.agg cs12] h8 fun (v13 : Value) (h14 : Heap) =>
                          Ext h8 h14 ∧
                            ∃ (t15 : Bool),
                              v13 = Value.bool t15 ∧
                                br (!t15)
                                  (storeP (some (33 : Nat)) h14 (Addr.mk b4 (0 : Nat) none)
                                    (Value.agg (List.toArray (Value.int IntKind.i64 (0 : Int) :: List.replicate (32 : Nat) (Value.int IntKind.u8 (0 : Int))))) fun (h16 : Heap) =>
                                    ∃ (cs17 : Array Value), row h16 (Addr.mk b4 (0 : Nat) none) (33 : Nat) = some cs17 ∧ R (Value.agg cs17) h16)
                                  (∃ (cs18 : Array Value),
                                    row h14 (Addr.add (Addr.mk b0 (0 : Nat) none) (1 : Nat)) (32 : Nat) = some cs18 ∧
                                      ∃ (cs19 : Array Value),
                                        row h14 (Addr.add (Addr.mk b0 (0 : Nat) none) (1 : Nat)) (32 : Nat) = some cs19 ∧
                                          ∃ (cs20 : Array Value),
                                            row h14 (Addr.add (Addr.mk b2 (0 : Nat) none) (1 : Nat)) (32 : Nat) = some cs20 ∧
                                              ∃ (n21 : Int),
                                                cell h14 (Addr.add (Addr.mk b0 (0 : Nat) none) (0 : Nat)) = some (Value.int IntKind.i64 n21) ∧
                                                  ∃ (n22 : Int),
                                                    cell h14 (Addr.add (Addr.mk b2 (0 : Nat) none) (0 : Nat)) = some (Value.int IntKind.i64 n22) ∧
                                                      CallsH Try.prog n_prefix_Shared #[Value.agg cs19, Value.agg cs20] h14 fun (v23 : Value) (h24 : Heap) =>
                                                        Ext h14 h24 ∧
                                                          ∃ (n25 : Int),
                                                            v23 = Value.int IntKind.i64 n25 ∧
                                                              CallsH Try.prog n_prefix_Cut #[Value.agg cs18, Value.int IntKind.i64 (minI (minI n25 n21) n22)] h24 fun (v26 : Value) (h27 : Heap) =>
                                                                Ext h24 h27 ∧
                                                                  ∃ (cs28 : Array Value),
                                                                    Array.size cs28 = (33 : Nat) ∧
                                                                      v26 = Value.agg cs28 ∧
                                                                        storeP (some (33 : Nat)) h27 (Addr.mk b4 (0 : Nat) none) (Value.agg cs28) fun (h29 : Heap) =>
                                                                          ∃ (cs30 : Array Value), row h29 (Addr.mk b4 (0 : Nat) none) (33 : Nat) = some cs30 ∧ R (Value.agg cs30) h29))
theorem C_prefix_Meet (p : Array Value) (q : Array Value) {h : Heap} {R : Value → Heap → Prop} (H : F_prefix_Meet p q h R) : CallsH Try.prog n_prefix_Meet [(.agg p), (.agg q)].toArray h R :=
  fn_sound (A := A_prefix_Meet) (Eq.mp (by kernel_rfl : F_prefix_Meet p q h R = fnVc Go.Proofs.Try.prog A_prefix_Meet 24 [(.agg p), (.agg q)] h R) H)

/- rolodex/prefix.Within -/
def A_prefix_Within : Ann := { qs := [9, 10, 11, 12, 13, 14, 15, 16, 17, 18, 19, 20, 21, 22, 23, 24, 25, 26, 27, 28, 29, 30, 32] }
def F_prefix_Within (p : Array Value) (q : Array Value) (h : Heap) (R : Value → Heap → Prop) : Prop :=
  newBlk h (28 : Nat) p fun (b0 : Nat) (h1 : Heap) =>
  newBlk h1 (28 : Nat) q fun (b2 : Nat) (h3 : Heap) =>
    ∃ (cs4 : Array Value),
      row h3 (Addr.mk b2 (0 : Nat) none) (33 : Nat) = some cs4 ∧
        CallsH Try.prog n_prefix_Formed #[Value.agg cs4] h3 fun (v5 : Value) (h6 : Heap) =>
          Ext h3 h6 ∧
            ∃ (t7 : Bool),
              v5 = Value.bool t7 ∧
                br t7
                  (∃ (n8 : Int),
                    cell h6 (Addr.add (Addr.mk b0 (0 : Nat) none) (0 : Nat)) = some (Value.int IntKind.i64 n8) ∧
                      ∃ (n9 : Int),
                        cell h6 (Addr.add (Addr.mk b2 (0 : Nat) none) (0 : Nat)) = some (Value.int IntKind.i64 n9) ∧
                          br (decide (n8 ≤ n9))
                            (∃ (cs10 : Array Value),
                              row h6 (Addr.mk b0 (0 : Nat) none) (33 : Nat) = some cs10 ∧
                                ∃ (cs11 : Array Value),
                                  row h6 (Addr.add (Addr.mk b2 (0 : Nat) none) (1 : Nat)) (32 : Nat) = some cs11 ∧
                                    CallsH Try.prog n_prefix_Holds #[Value.agg cs10, Value.agg cs11] h6 fun (v12 : Value) (h13 : Heap) =>
                                      Ext h6 h13 ∧ ∃ (t14 : Bool), v12 = Value.bool t14 ∧ R (Value.bool t14) h13)
                            (R (Value.bool false) h6))
                  (R (Value.bool false) h6)
theorem C_prefix_Within (p : Array Value) (q : Array Value) {h : Heap} {R : Value → Heap → Prop} (H : F_prefix_Within p q h R) : CallsH Try.prog n_prefix_Within [(.agg p), (.agg q)].toArray h R :=
  fn_sound (A := A_prefix_Within) (Eq.mp (by kernel_rfl : F_prefix_Within p q h R = fnVc Go.Proofs.Try.prog A_prefix_Within 26 [(.agg p), (.agg q)] h R) H)

/- rolodex/rolodexref03.Child -/
def A_ref03_Child : Ann := { qs := [9, 10, 11, 12, 13, 14, 15, 16, 17, 18, 19, 20, 21, 22, 23, 24, 25, 26, 27, 28, 29, 30, 32] }
def F_ref03_Child (p : Array Value) (bit : Int) (h : Heap) (R : Value → Heap → Prop) : Prop :=
  newBlk h (28 : Nat) p fun (b0 : Nat) (h1 : Heap) =>
  newBlk h1 (28 : Nat) (List.toArray (Value.int IntKind.i64 (0 : Int) :: List.replicate (32 : Nat) (Value.int IntKind.u8 (0 : Int)))) fun (b2 : Nat) (h3 : Heap) =>
    ∃ (cs4 : Array Value),
      row h3 (Addr.mk b0 (0 : Nat) none) (33 : Nat) = some cs4 ∧
        CallsH Try.prog n_ref03_Formed #[Value.agg cs4] h3 fun (v5 : Value) (h6 : Heap) =>
          Ext h3 h6 ∧
            ∃ (t7 : Bool),
              v5 = Value.bool t7 ∧
                br (!t7)
                  (storeP (some (33 : Nat)) h6 (Addr.mk b2 (0 : Nat) none) (Value.agg (List.toArray (Value.int IntKind.i64 (0 : Int) :: List.replicate (32 : Nat) (Value.int IntKind.u8 (0 : Int)))))
                    fun (h8 : Heap) => ∃ (cs9 : Array Value), row h8 (Addr.mk b2 (0 : Nat) none) (33 : Nat) = some cs9 ∧ R (Value.tuple #[Value.agg cs9, Value.bool false]) h8)
                  (∃ (n10 : Int),
                    cell h6 (Addr.add (Addr.mk b0 (0 : Nat) none) (0 : Nat)) = some (Value.int IntKind.i64 n10) ∧
                      br (decide (n10 > (255 : Int)))
                        (storeP (some (33 : Nat)) h6 (Addr.mk b2 (0 : Nat) none)
                          (Value.agg (List.toArray (Value.int IntKind.i64 (0 : Int) :: List.replicate (32 : Nat) (Value.int IntKind.u8 (0 : Int))))) fun (h11 : Heap) =>
                          ∃ (cs12 : Array Value), row h11 (Addr.mk b2 (0 : Nat) none) (33 : Nat) = some cs12 ∧ R (Value.tuple #[Value.agg cs12, Value.bool false]) h11)
                        (br (bit != (0 : Int))
                          (br (bit != (1 : Int))
                            (storeP (some (33 : Nat)) h6 (Addr.mk b2 (0 : Nat) none)
                              (Value.agg (List.toArray (Value.int IntKind.i64 (0 : Int) :: List.replicate (32 : Nat) (Value.int IntKind.u8 (0 : Int))))) fun (h13 : Heap) =>
                              ∃ (cs14 : Array Value), row h13 (Addr.mk b2 (0 : Nat) none) (33 : Nat) = some cs14 ∧ R (Value.tuple #[Value.agg cs14, Value.bool false]) h13)
                            (∃ (n15 : Int),
                              cell h6 (Addr.add (Addr.mk b0 (0 : Nat) none) (0 : Nat)) = some (Value.int IntKind.i64 n15) ∧
                                ∃ (cs16 : Array Value),
                                  row h6 (Addr.add (Addr.mk b0 (0 : Nat) none) (1 : Nat)) (32 : Nat) = some cs16 ∧
                                    Array.size cs16 = (32 : Nat) ∧
                                      newBlk h6 (28 : Nat) (List.toArray (Value.int IntKind.i64 (0 : Int) :: List.replicate (32 : Nat) (Value.int IntKind.u8 (0 : Int))))
                                        fun (b17 : Nat) (h18 : Heap) =>
                                        storeP (some (33 : Nat)) h18 (Addr.mk b17 (0 : Nat) none)
                                          (Value.agg (List.toArray (Value.int IntKind.i64 (IntKind.wrap IntKind.i64 (n15 + (1 : Int))) :: (Array.toList cs16 ++ [])))) fun (h19 : Heap) =>
                                          br (bit == (1 : Int))
                                            (∃ (cs20 : Array Value),
                                              row h19 (Addr.add (Addr.mk b17 (0 : Nat) none) (1 : Nat)) (32 : Nat) = some cs20 ∧
                                                ∃ (n21 : Int),
                                                  cell h19 (Addr.add (Addr.mk b0 (0 : Nat) none) (0 : Nat)) = some (Value.int IntKind.i64 n21) ∧
                                                    CallsH Try.prog n_ref03_Set #[Value.agg cs20, Value.int IntKind.i64 n21] h19 fun (v22 : Value) (h23 : Heap) =>
                                                      Ext h19 h23 ∧
                                                        ∃ (cs24 : Array Value),
                                                          Array.size cs24 = (32 : Nat) ∧
                                                            v22 = Value.agg cs24 ∧
                                                              storeP (some (32 : Nat)) h23 (Addr.mk (Addr.block (Addr.mk b17 (0 : Nat) none)) (Addr.off (Addr.mk b17 (0 : Nat) none) + (1 : Nat)) none)
                                                                (Value.agg cs24) fun (h25 : Heap) =>
                                                                ∃ (cs26 : Array Value),
                                                                  row h25 (Addr.mk b17 (0 : Nat) none) (33 : Nat) = some cs26 ∧
                                                                    storeP (some (33 : Nat)) h25 (Addr.mk b2 (0 : Nat) none) (Value.agg cs26) fun (h27 : Heap) =>
                                                                      ∃ (cs28 : Array Value),
                                                                        row h27 (Addr.mk b2 (0 : Nat) none) (33 : Nat) = some cs28 ∧ R (Value.tuple #[Value.agg cs28, Value.bool true]) h27)
                                            (∃ (cs29 : Array Value),
                                              row h19 (Addr.mk b17 (0 : Nat) none) (33 : Nat) = some cs29 ∧
                                                storeP (some (33 : Nat)) h19 (Addr.mk b2 (0 : Nat) none) (Value.agg cs29) fun (h30 : Heap) =>
                                                  ∃ (cs31 : Array Value), row h30 (Addr.mk b2 (0 : Nat) none) (33 : Nat) = some cs31 ∧ R (Value.tuple #[Value.agg cs31, Value.bool true]) h30)))
                          (∃ (n32 : Int),
                            cell h6 (Addr.add (Addr.mk b0 (0 : Nat) none) (0 : Nat)) = some (Value.int IntKind.i64 n32) ∧
                              ∃ (cs33 : Array Value),
                                row h6 (Addr.add (Addr.mk b0 (0 : Nat) none) (1 : Nat)) (32 : Nat) = some cs33 ∧
                                  Array.size cs33 = (32 : Nat) ∧
                                    newBlk h6 (28 : Nat) (List.toArray (Value.int IntKind.i64 (0 : Int) :: List.replicate (32 : Nat) (Value.int IntKind.u8 (0 : Int)))) fun (b34 : Nat) (h35 : Heap) =>
                                      storeP (some (33 : Nat)) h35 (Addr.mk b34 (0 : Nat) none)
                                        (Value.agg (List.toArray (Value.int IntKind.i64 (IntKind.wrap IntKind.i64 (n32 + (1 : Int))) :: (Array.toList cs33 ++ [])))) fun (h36 : Heap) =>
                                        br (bit == (1 : Int))
                                          (∃ (cs37 : Array Value),
                                            row h36 (Addr.add (Addr.mk b34 (0 : Nat) none) (1 : Nat)) (32 : Nat) = some cs37 ∧
                                              ∃ (n38 : Int),
                                                cell h36 (Addr.add (Addr.mk b0 (0 : Nat) none) (0 : Nat)) = some (Value.int IntKind.i64 n38) ∧
                                                  CallsH Try.prog n_ref03_Set #[Value.agg cs37, Value.int IntKind.i64 n38] h36 fun (v39 : Value) (h40 : Heap) =>
                                                    Ext h36 h40 ∧
                                                      ∃ (cs41 : Array Value),
                                                        Array.size cs41 = (32 : Nat) ∧
                                                          v39 = Value.agg cs41 ∧
                                                            storeP (some (32 : Nat)) h40 (Addr.mk (Addr.block (Addr.mk b34 (0 : Nat) none)) (Addr.off (Addr.mk b34 (0 : Nat) none) + (1 : Nat)) none)
                                                              (Value.agg cs41) fun (h42 : Heap) =>
                                                              ∃ (cs43 : Array Value),
                                                                row h42 (Addr.mk b34 (0 : Nat) none) (33 : Nat) = some cs43 ∧
                                                                  storeP (some (33 : Nat)) h42 (Addr.mk b2 (0 : Nat) none) (Value.agg cs43) fun (h44 : Heap) =>
                                                                    ∃ (cs45 : Array Value),
                                                                      row h44 (Addr.mk b2 (0 : Nat) none) (33 : Nat) = some cs45 ∧ R (Value.tuple #[Value.agg cs45, Value.bool true]) h44)
                                          (∃ (cs46 : Array Value),
                                            row h36 (Addr.mk b34 (0 : Nat) none) (33 : Nat) = some cs46 ∧
                                              storeP (some (33 : Nat)) h36 (Addr.mk b2 (0 : Nat) none) (Value.agg cs46) fun (h47 : Heap) =>
                                                ∃ (cs48 : Array Value), row h47 (Addr.mk b2 (0 : Nat) none) (33 : Nat) = some cs48 ∧ R (Value.tuple #[Value.agg cs48, Value.bool true]) h47))))
theorem C_ref03_Child (p : Array Value) (bit : Int) {h : Heap} {R : Value → Heap → Prop} (H : F_ref03_Child p bit h R) : CallsH Try.prog n_ref03_Child [(.agg p), (.int .i64 bit)].toArray h R :=
  fn_sound (A := A_ref03_Child) (Eq.mp (by kernel_rfl : F_ref03_Child p bit h R = fnVc Go.Proofs.Try.prog A_ref03_Child 12 [(.agg p), (.int .i64 bit)] h R) H)

/- rolodex/rolodexref03.Cut -/
def A_ref03_Cut : Ann := { qs := [9, 10, 11, 12, 13, 14, 15, 16, 17, 18, 19, 20, 21, 22, 23, 24, 25, 26, 27, 28, 29, 30, 32], loops := [(3, [(6, (.int .i64))])] }
def F_ref03_Cut (k : Array Value) (n : Int) (h : Heap) (R : Value → Heap → Prop) : Prop :=
  newBlk h (23 : Nat) k fun (b0 : Nat) (h1 : Heap) =>
  newBlk h1 (28 : Nat) (List.toArray (Value.int IntKind.i64 (0 : Int) :: List.replicate (32 : Nat) (Value.int IntKind.u8 (0 : Int)))) fun (b2 : Nat) (h3 : Heap) =>
    newBlk h3 (28 : Nat) (List.toArray (Value.int IntKind.i64 (0 : Int) :: List.replicate (32 : Nat) (Value.int IntKind.u8 (0 : Int)))) fun (b4 : Nat) (h5 : Heap) =>
      ∃ (I6 : Int → Heap → Prop),
        ∃ (μ7 : Int → Heap → Nat),
          I6 (0 : Int) h5 ∧
            ∀ (n8 : Int) (h9 : Heap),
              I6 n8 h9 →
                br (decide (n8 < n))
                  (br (decide (n8 < (256 : Int)))
                    (∃ (n10 : Int),
                      cell h9 (Addr.add (Addr.mk b4 (0 : Nat) none) (0 : Nat)) = some (Value.int IntKind.i64 n10) ∧
                        storeP none h9 (Addr.mk b4 (0 : Nat) none) (Value.int IntKind.i64 (IntKind.wrap IntKind.i64 (n10 + (1 : Int)))) fun (h11 : Heap) =>
                          ∃ (cs12 : Array Value),
                            row h11 (Addr.mk b0 (0 : Nat) none) (32 : Nat) = some cs12 ∧
                              CallsH Try.prog n_ref03_Bit #[Value.agg cs12, Value.int IntKind.i64 n8] h11 fun (v13 : Value) (h14 : Heap) =>
                                Ext h11 h14 ∧
                                  ∃ (n15 : Int),
                                    v13 = Value.int IntKind.i64 n15 ∧
                                      br (n15 == (1 : Int))
                                        (∃ (cs16 : Array Value),
                                          row h14 (Addr.add (Addr.mk b4 (0 : Nat) none) (1 : Nat)) (32 : Nat) = some cs16 ∧
                                            CallsH Try.prog n_ref03_Set #[Value.agg cs16, Value.int IntKind.i64 n8] h14 fun (v17 : Value) (h18 : Heap) =>
                                              Ext h14 h18 ∧
                                                ∃ (cs19 : Array Value),
                                                  Array.size cs19 = (32 : Nat) ∧
                                                    v17 = Value.agg cs19 ∧
                                                      storeP (some (32 : Nat)) h18 (Addr.mk (Addr.block (Addr.mk b4 (0 : Nat) none)) (Addr.off (Addr.mk b4 (0 : Nat) none) + (1 : Nat)) none)
                                                        (Value.agg cs19) fun (h20 : Heap) =>
                                                        I6 (IntKind.wrap IntKind.i64 (n8 + (1 : Int))) h20 ∧ μ7 (IntKind.wrap IntKind.i64 (n8 + (1 : Int))) h20 < μ7 n8 h9)
                                        (I6 (IntKind.wrap IntKind.i64 (n8 + (1 : Int))) h14 ∧ μ7 (IntKind.wrap IntKind.i64 (n8 + (1 : Int))) h14 < μ7 n8 h9))
                    (∃ (cs21 : Array Value),
                      row h9 (Addr.mk b4 (0 : Nat) none) (33 : Nat) = some cs21 ∧
                        storeP (some (33 : Nat)) h9 (Addr.mk b2 (0 : Nat) none) (Value.agg cs21) fun (h22 : Heap) =>
                          ∃ (cs23 : Array Value), row h22 (Addr.mk b2 (0 : Nat) none) (33 : Nat) = some cs23 ∧ R (Value.agg cs23) h22))
                  (∃ (cs24 : Array Value),
                    row h9 (Addr.mk b4 (0 : Nat) none) (33 : Nat) = some cs24 ∧
                      storeP (some (33 : Nat)) h9 (Addr.mk b2 (0 : Nat) none) (Value.agg cs24) fun (h25 : Heap) =>
                        ∃ (cs26 : Array Value), row h25 (Addr.mk b2 (0 : Nat) none) (33 : Nat) = some cs26 ∧ R (Value.agg cs26) h25)
theorem C_ref03_Cut (k : Array Value) (n : Int) {h : Heap} {R : Value → Heap → Prop} (H : F_ref03_Cut k n h R) : CallsH Try.prog n_ref03_Cut [(.agg k), (.int .i64 n)].toArray h R :=
  fn_sound (A := A_ref03_Cut) (Eq.mp (by kernel_rfl : F_ref03_Cut k n h R = fnVc Go.Proofs.Try.prog A_ref03_Cut 14 [(.agg k), (.int .i64 n)] h R) H)

/- rolodex/rolodexref03.Formed -/
def A_ref03_Formed : Ann := { qs := [9, 10, 11, 12, 13, 14, 15, 16, 17, 18, 19, 20, 21, 22, 23, 24, 25, 26, 27, 28, 29, 30, 32], loops := [(4, [(3, (.int .i64))])] }
def F_ref03_Formed (p : Array Value) (h : Heap) (R : Value → Heap → Prop) : Prop :=
  newBlk h (28 : Nat) p fun (b0 : Nat) (h1 : Heap) =>
  ∃ (n2 : Int),
    cell h1 (Addr.add (Addr.mk b0 (0 : Nat) none) (0 : Nat)) = some (Value.int IntKind.i64 n2) ∧
      br (decide (n2 < (0 : Int))) (R (Value.bool false) h1)
        (∃ (n3 : Int),
          cell h1 (Addr.add (Addr.mk b0 (0 : Nat) none) (0 : Nat)) = some (Value.int IntKind.i64 n3) ∧
            br (decide (n3 > (256 : Int))) (R (Value.bool false) h1)
              (∃ (n4 : Int),
                cell h1 (Addr.add (Addr.mk b0 (0 : Nat) none) (0 : Nat)) = some (Value.int IntKind.i64 n4) ∧
                  ∃ (I5 : Int → Heap → Prop),
                    ∃ (μ6 : Int → Heap → Nat),
                      I5 n4 h1 ∧
                        ∀ (n7 : Int) (h8 : Heap),
                          I5 n7 h8 →
                            br (decide (n7 < (256 : Int)))
                              (∃ (cs9 : Array Value),
                                row h8 (Addr.add (Addr.mk b0 (0 : Nat) none) (1 : Nat)) (32 : Nat) = some cs9 ∧
                                  CallsH Try.prog n_ref03_Bit #[Value.agg cs9, Value.int IntKind.i64 n7] h8 fun (v10 : Value) (h11 : Heap) =>
                                    Ext h8 h11 ∧
                                      ∃ (n12 : Int),
                                        v10 = Value.int IntKind.i64 n12 ∧
                                          br (n12 == (1 : Int)) (R (Value.bool false) h11)
                                            (I5 (IntKind.wrap IntKind.i64 (n7 + (1 : Int))) h11 ∧ μ6 (IntKind.wrap IntKind.i64 (n7 + (1 : Int))) h11 < μ6 n7 h8))
                              (R (Value.bool true) h8)))
theorem C_ref03_Formed (p : Array Value) {h : Heap} {R : Value → Heap → Prop} (H : F_ref03_Formed p h R) : CallsH Try.prog n_ref03_Formed [(.agg p)].toArray h R :=
  fn_sound (A := A_ref03_Formed) (Eq.mp (by kernel_rfl : F_ref03_Formed p h R = fnVc Go.Proofs.Try.prog A_ref03_Formed 16 [(.agg p)] h R) H)

/- rolodex/rolodexref03.Holds -/
def A_ref03_Holds : Ann := { qs := [9, 10, 11, 12, 13, 14, 15, 16, 17, 18, 19, 20, 21, 22, 23, 24, 25, 26, 27, 28, 29, 30, 32], plans := [(1, (.take 0 (.alt 1 (.take 2 (.take 3 (.take 4 (.take 5 (.take 7 (.take 8 (.alt 6 (.take 9 (.take 10 (.take 11 .done))) .stop))))))) .stop)))] }
def F_ref03_Holds (p : Array Value) (k : Array Value) (h : Heap) (R : Value → Heap → Prop) : Prop :=
  newBlk h (28 : Nat) p fun (b0 : Nat) (h1 : Heap) =>
  newBlk h1 (23 : Nat) k fun (b2 : Nat) (h3 : Heap) =>
    ∃ (cs4 : Array Value),
      row h3 (Addr.mk b0 (0 : Nat) none) (33 : Nat) = some cs4 ∧
        CallsH Try.prog n_ref03_Formed #[Value.agg cs4] h3 fun (v5 : Value) (h6 : Heap) =>
          Ext h3 h6 ∧
            ∃ (t7 : Bool),
              v5 = Value.bool t7 ∧
                br t7
                  (∃ (cs8 : Array Value),
                    row h6 (Addr.add (Addr.mk b0 (0 : Nat) none) (1 : Nat)) (32 : Nat) = some cs8 ∧
                      ∃ (cs9 : Array Value),
                        row h6 (Addr.mk b2 (0 : Nat) none) (32 : Nat) = some cs9 ∧
                          ∃ (n10 : Int),
                            cell h6 (Addr.add (Addr.mk b0 (0 : Nat) none) (0 : Nat)) = some (Value.int IntKind.i64 n10) ∧
                              CallsH Try.prog n_ref03_Shared #[Value.agg cs8, Value.agg cs9] h6 fun (v11 : Value) (h12 : Heap) =>
                                Ext h6 h12 ∧ ∃ (n13 : Int), v11 = Value.int IntKind.i64 n13 ∧ R (Value.bool (decide (n13 ≥ n10))) h12)
                  (R (Value.bool false) h6)
theorem C_ref03_Holds (p : Array Value) (k : Array Value) {h : Heap} {R : Value → Heap → Prop} (H : F_ref03_Holds p k h R) : CallsH Try.prog n_ref03_Holds [(.agg p), (.agg k)].toArray h R :=
  fn_sound (A := A_ref03_Holds) (Eq.mp (by kernel_rfl : F_ref03_Holds p k h R = fnVc Go.Proofs.Try.prog A_ref03_Holds 18 [(.agg p), (.agg k)] h R) H)

/- rolodex/rolodexref03.Bit -/
def A_ref03_Bit : Ann := { qs := [9, 10, 11, 12, 13, 14, 15, 16, 17, 18, 19, 20, 21, 22, 23, 24, 25, 26, 27, 28, 29, 30, 32], loops := [(5, [(5, (.int .i64)), (6, (.int .i64))])] }
def F_ref03_Bit (k : Array Value) (i : Int) (h : Heap) (R : Value → Heap → Prop) : Prop :=
  newBlk h (23 : Nat) k fun (b0 : Nat) (h1 : Heap) =>
  br (decide (i < (0 : Int))) (R (Value.int IntKind.i64 (0 : Int)) h1)
    (br (decide (i > (255 : Int))) (R (Value.int IntKind.i64 (0 : Int)) h1)
      ((8 : Int) ≠ (0 : Int) ∧
        (0 : Int) ≤ IntKind.wrap IntKind.i64 (Int.tdiv i (8 : Int)) ∧
          IntKind.wrap IntKind.i64 (Int.tdiv i (8 : Int)) < (↑(32 : Nat) : Int) ∧
            ∃ (n2 : Int),
              cell h1 (Addr.add (Addr.mk b0 (0 : Nat) none) (Int.toNat (IntKind.wrap IntKind.i64 (Int.tdiv i (8 : Int))) * (1 : Nat))) = some (Value.int IntKind.u8 n2) ∧
                ∃ (I3 : Int × Int → Heap → Prop),
                  ∃ (μ4 : Int × Int → Heap → Nat),
                    I3 (IntKind.wrap IntKind.i64 n2, (0 : Int)) h1 ∧
                      ∀ (s5 : Int × Int) (h6 : Heap),
                        I3 s5 h6 →
                          (8 : Int) ≠ (0 : Int) ∧
                            br (decide (Prod.snd s5 < IntKind.wrap IntKind.i64 ((7 : Int) - Int.tmod i (8 : Int))))
                              ((2 : Int) ≠ (0 : Int) ∧
                                I3 (IntKind.wrap IntKind.i64 (Int.tdiv (Prod.fst s5) (2 : Int)), IntKind.wrap IntKind.i64 (Prod.snd s5 + (1 : Int))) h6 ∧
                                  μ4 (IntKind.wrap IntKind.i64 (Int.tdiv (Prod.fst s5) (2 : Int)), IntKind.wrap IntKind.i64 (Prod.snd s5 + (1 : Int))) h6 < μ4 s5 h6)
                              ((2 : Int) ≠ (0 : Int) ∧ R (Value.int IntKind.i64 (Int.tmod (Prod.fst s5) (2 : Int))) h6)))
theorem C_ref03_Bit (k : Array Value) (i : Int) {h : Heap} {R : Value → Heap → Prop} (H : F_ref03_Bit k i h R) : CallsH Try.prog n_ref03_Bit [(.agg k), (.int .i64 i)].toArray h R :=
  fn_sound (A := A_ref03_Bit) (Eq.mp (by kernel_rfl : F_ref03_Bit k i h R = fnVc Go.Proofs.Try.prog A_ref03_Bit 21 [(.agg k), (.int .i64 i)] h R) H)

/- rolodex/rolodexref03.Shared -/
def A_ref03_Shared : Ann := { qs := [9, 10, 11, 12, 13, 14, 15, 16, 17, 18, 19, 20, 21, 22, 23, 24, 25, 26, 27, 28, 29, 30, 32], loops := [(2, [(5, (.int .i64))])], plans := [(2, (.take 0 (.take 1 (.take 2 (.take 3 (.take 4 (.take 6 (.take 7 (.alt 5 (.alt 8 (.take 9 (.take 10 .done)) .stop) .stop)))))))))] }
def F_ref03_Shared (a : Array Value) (b : Array Value) (h : Heap) (R : Value → Heap → Prop) : Prop :=
  newBlk h (23 : Nat) a fun (b0 : Nat) (h1 : Heap) =>
  newBlk h1 (23 : Nat) b fun (b2 : Nat) (h3 : Heap) =>
    ∃ (I4 : Int → Heap → Prop),
      ∃ (μ5 : Int → Heap → Nat),
        I4 (0 : Int) h3 ∧
          ∀ (n6 : Int) (h7 : Heap),
            I4 n6 h7 →
              br (decide (n6 < (256 : Int)))
                (∃ (cs8 : Array Value),
                  row h7 (Addr.mk b0 (0 : Nat) none) (32 : Nat) = some cs8 ∧
                    ∃ (cs9 : Array Value),
                      row h7 (Addr.mk b2 (0 : Nat) none) (32 : Nat) = some cs9 ∧
                        CallsH Try.prog n_ref03_Bit #[Value.agg cs8, Value.int IntKind.i64 n6] h7 fun (v10 : Value) (h11 : Heap) =>
                          Ext h7 h11 ∧
                            ∃ (n12 : Int),
                              v10 = Value.int IntKind.i64 n12 ∧
                                CallsH Try.prog n_ref03_Bit #[Value.agg cs9, Value.int IntKind.i64 n6] h11 fun (v13 : Value) (h14 : Heap) =>
                                  Ext h11 h14 ∧
                                    ∃ (n15 : Int),
                                      v13 = Value.int IntKind.i64 n15 ∧
                                        br (n12 == n15) (I4 (IntKind.wrap IntKind.i64 (n6 + (1 : Int))) h14 ∧ μ5 (IntKind.wrap IntKind.i64 (n6 + (1 : Int))) h14 < μ5 n6 h7)
                                          (R (Value.int IntKind.i64 n6) h14))
                (R (Value.int IntKind.i64 n6) h7)
theorem C_ref03_Shared (a : Array Value) (b : Array Value) {h : Heap} {R : Value → Heap → Prop} (H : F_ref03_Shared a b h R) : CallsH Try.prog n_ref03_Shared [(.agg a), (.agg b)].toArray h R :=
  fn_sound (A := A_ref03_Shared) (Eq.mp (by kernel_rfl : F_ref03_Shared a b h R = fnVc Go.Proofs.Try.prog A_ref03_Shared 22 [(.agg a), (.agg b)] h R) H)

/- rolodex/rolodexref03.Less -/
def A_ref03_Less : Ann := { qs := [9, 10, 11, 12, 13, 14, 15, 16, 17, 18, 19, 20, 21, 22, 23, 24, 25, 26, 27, 28, 29, 30, 32] }
def F_ref03_Less (a : Array Value) (b : Array Value) (h : Heap) (R : Value → Heap → Prop) : Prop :=
  newBlk h (23 : Nat) a fun (b0 : Nat) (h1 : Heap) =>
  newBlk h1 (23 : Nat) b fun (b2 : Nat) (h3 : Heap) =>
    ∃ (cs4 : Array Value),
      row h3 (Addr.mk b0 (0 : Nat) none) (32 : Nat) = some cs4 ∧
        ∃ (cs5 : Array Value),
          row h3 (Addr.mk b2 (0 : Nat) none) (32 : Nat) = some cs5 ∧
            CallsH Try.prog n_ref03_Shared #[Value.agg cs4, Value.agg cs5] h3 fun (v6 : Value) (h7 : Heap) =>
              Ext h3 h7 ∧
                ∃ (n8 : Int),
                  v6 = Value.int IntKind.i64 n8 ∧
                    br (decide (n8 < (256 : Int)))
                      (∃ (cs9 : Array Value),
                        row h7 (Addr.mk b0 (0 : Nat) none) (32 : Nat) = some cs9 ∧
                          CallsH Try.prog n_ref03_Bit #[Value.agg cs9, Value.int IntKind.i64 n8] h7 fun (v10 : Value) (h11 : Heap) =>
                            Ext h7 h11 ∧ ∃ (n12 : Int), v10 = Value.int IntKind.i64 n12 ∧ R (Value.bool (n12 == (0 : Int))) h11)
                      (R (Value.bool false) h7)
theorem C_ref03_Less (a : Array Value) (b : Array Value) {h : Heap} {R : Value → Heap → Prop} (H : F_ref03_Less a b h R) : CallsH Try.prog n_ref03_Less [(.agg a), (.agg b)].toArray h R :=
  fn_sound (A := A_ref03_Less) (Eq.mp (by kernel_rfl : F_ref03_Less a b h R = fnVc Go.Proofs.Try.prog A_ref03_Less 23 [(.agg a), (.agg b)] h R) H)

/- rolodex/rolodexref03.Meet -/
def A_ref03_Meet : Ann := { qs := [9, 10, 11, 12, 13, 14, 15, 16, 17, 18, 19, 20, 21, 22, 23, 24, 25, 26, 27, 28, 29, 30, 32], loops := [(4, [(5, (.int .i64))])], plans := [(4, (.take 0 (.take 1 (.take 2 (.take 3 (.take 4 (.take 5 (.take 6 (.take 7 (.take 8 (.take 9 (.take 10 (.take 11 (.take 12 (.take 13 (.take 15 (.take 16 (.take 17 (.alt 14 (.alt 18 (.take 19 (.take 20 .done)) .stop) .stop)))))))))))))))))))] }
def F_ref03_Meet (p : Array Value) (q : Array Value) (h : Heap) (R : Value → Heap → Prop) : Prop :=
  newBlk h (28 : Nat) p fun (b0 : Nat) (h1 : Heap) =>
  newBlk h1 (28 : Nat) q fun (b2 : Nat) (h3 : Heap) =>
    newBlk h3 (28 : Nat) (List.toArray (Value.int IntKind.i64 (0 : Int) :: List.replicate (32 : Nat) (Value.int IntKind.u8 (0 : Int)))) fun (b4 : Nat) (h5 : Heap) =>
      ∃ (cs6 : Array Value),
        row h5 (Addr.mk b0 (0 : Nat) none) (33 : Nat) = some cs6 ∧
          CallsH Try.prog n_ref03_Formed #[Value.agg cs6] h5 fun (v7 : Value) (h8 : Heap) =>
            Ext h5 h8 ∧
              ∃ (t9 : Bool),
                v7 = Value.bool t9 ∧
                  br (!t9)
                    (storeP (some (33 : Nat)) h8 (Addr.mk b4 (0 : Nat) none) (Value.agg (List.toArray (Value.int IntKind.i64 (0 : Int) :: List.replicate (32 : Nat) (Value.int IntKind.u8 (0 : Int)))))
                      fun (h10 : Heap) => ∃ (cs11 : Array Value), row h10 (Addr.mk b4 (0 : Nat) none) (33 : Nat) = some cs11 ∧ R (Value.agg cs11) h10)
                    (∃ (cs12 : Array Value),
                      row h8 (Addr.mk b2 (0 : Nat) none) (33 : Nat) = some cs12 ∧
                        CallsH Try.prog n_ref03_Formed #[Value.agg cs12] h8 fun (v13 : Value) (h14 : Heap) =>
                          Ext h8 h14 ∧
                            ∃ (t15 : Bool),
                              v13 = Value.bool t15 ∧
                                br (!t15)
                                  (storeP (some (33 : Nat)) h14 (Addr.mk b4 (0 : Nat) none)
                                    (Value.agg (List.toArray (Value.int IntKind.i64 (0 : Int) :: List.replicate (32 : Nat) (Value.int IntKind.u8 (0 : Int))))) fun (h16 : Heap) =>
                                    ∃ (cs17 : Array Value), row h16 (Addr.mk b4 (0 : Nat) none) (33 : Nat) = some cs17 ∧ R (Value.agg cs17) h16)
                                  (∃ (I18 : Int → Heap → Prop),
                                    ∃ (μ19 : Int → Heap → Nat),
                                      I18 (0 : Int) h14 ∧
                                        ∀ (n20 : Int) (h21 : Heap),
                                          I18 n20 h21 →
                                            ∃ (n22 : Int),
                                              cell h21 (Addr.add (Addr.mk b0 (0 : Nat) none) (0 : Nat)) = some (Value.int IntKind.i64 n22) ∧
                                                br (decide (n20 < n22))
                                                  (∃ (n23 : Int),
                                                    cell h21 (Addr.add (Addr.mk b2 (0 : Nat) none) (0 : Nat)) = some (Value.int IntKind.i64 n23) ∧
                                                      br (decide (n20 < n23))
                                                        (∃ (cs24 : Array Value),
                                                          row h21 (Addr.add (Addr.mk b0 (0 : Nat) none) (1 : Nat)) (32 : Nat) = some cs24 ∧
                                                            ∃ (cs25 : Array Value),
                                                              row h21 (Addr.add (Addr.mk b2 (0 : Nat) none) (1 : Nat)) (32 : Nat) = some cs25 ∧
                                                                CallsH Try.prog n_ref03_Bit #[Value.agg cs24, Value.int IntKind.i64 n20] h21 fun (v26 : Value) (h27 : Heap) =>
                                                                  Ext h21 h27 ∧
                                                                    ∃ (n28 : Int),
                                                                      v26 = Value.int IntKind.i64 n28 ∧
                                                                        CallsH Try.prog n_ref03_Bit #[Value.agg cs25, Value.int IntKind.i64 n20] h27 fun (v29 : Value) (h30 : Heap) =>
                                                                          Ext h27 h30 ∧
                                                                            ∃ (n31 : Int),
                                                                              v29 = Value.int IntKind.i64 n31 ∧
                                                                                br (n28 == n31)
                                                                                  (I18 (IntKind.wrap IntKind.i64 (n20 + (1 : Int))) h30 ∧
                                                                                    μ19 (IntKind.wrap IntKind.i64 (n20 + (1 : Int))) h30 < μ19 n20 h21)
                                                                                  (∃ (cs32 : Array Value),
                                                                                    row h30 (Addr.add (Addr.mk b0 (0 : Nat) none) (1 : Nat)) (32 : Nat) = some cs32 ∧
                                                                                      CallsH Try.prog n_ref03_Cut #[Value.agg cs32, Value.int IntKind.i64 n20] h30 fun (v33 : Value) (h34 : Heap) =>
                                                                                        Ext h30 h34 ∧
                                                                                          ∃ (cs35 : Array Value),
                                                                                            Array.size cs35 = (33 : Nat) ∧
                                                                                              v33 = Value.agg cs35 ∧
                                                                                                storeP (some (33 : Nat)) h34 (Addr.mk b4 (0 : Nat) none) (Value.agg cs35) fun (h36 : Heap) =>
                                                                                                  ∃ (cs37 : Array Value),
                                                                                                    row h36 (Addr.mk b4 (0 : Nat) none) (33 : Nat) = some cs37 ∧ R (Value.agg cs37) h36))
                                                        (∃ (cs38 : Array Value),
                                                          row h21 (Addr.add (Addr.mk b0 (0 : Nat) none) (1 : Nat)) (32 : Nat) = some cs38 ∧
                                                            CallsH Try.prog n_ref03_Cut #[Value.agg cs38, Value.int IntKind.i64 n20] h21 fun (v39 : Value) (h40 : Heap) =>
                                                              Ext h21 h40 ∧
                                                                ∃ (cs41 : Array Value),
                                                                  Array.size cs41 = (33 : Nat) ∧
                                                                    v39 = Value.agg cs41 ∧
                                                                      storeP (some (33 : Nat)) h40 (Addr.mk b4 (0 : Nat) none) (Value.agg cs41) fun (h42 : Heap) =>
                                                                        ∃ (cs43 : Array Value), row h42 (Addr.mk b4 (0 : Nat) none) (33 : Nat) = some cs43 ∧ R (Value.agg cs43) h42))
                                                  (∃ (cs44 : Array Value),
                                                    row h21 (Addr.add (Addr.mk b0 (0 : Nat) none) (1 : Nat)) (32 : Nat) = some cs44 ∧
                                                      CallsH Try.prog n_ref03_Cut #[Value.agg cs44, Value.int IntKind.i64 n20] h21 fun (v45 : Value) (h46 : Heap) =>
                                                        Ext h21 h46 ∧
                                                          ∃ (cs47 : Array Value),
                                                            Array.size cs47 = (33 : Nat) ∧
                                                              v45 = Value.agg cs47 ∧
                                                                storeP (some (33 : Nat)) h46 (Addr.mk b4 (0 : Nat) none) (Value.agg cs47) fun (h48 : Heap) =>
                                                                  ∃ (cs49 : Array Value), row h48 (Addr.mk b4 (0 : Nat) none) (33 : Nat) = some cs49 ∧ R (Value.agg cs49) h48)))
theorem C_ref03_Meet (p : Array Value) (q : Array Value) {h : Heap} {R : Value → Heap → Prop} (H : F_ref03_Meet p q h R) : CallsH Try.prog n_ref03_Meet [(.agg p), (.agg q)].toArray h R :=
  fn_sound (A := A_ref03_Meet) (Eq.mp (by kernel_rfl : F_ref03_Meet p q h R = fnVc Go.Proofs.Try.prog A_ref03_Meet 25 [(.agg p), (.agg q)] h R) H)

/- rolodex/rolodexref03.Within -/
def A_ref03_Within : Ann := { qs := [9, 10, 11, 12, 13, 14, 15, 16, 17, 18, 19, 20, 21, 22, 23, 24, 25, 26, 27, 28, 29, 30, 32], plans := [(1, (.take 0 (.alt 1 (.take 2 (.take 3 (.alt 4 (.take 5 (.take 6 (.take 7 (.take 8 (.take 9 (.take 10 (.take 11 (.take 12 (.take 13 (.take 14 (.take 15 (.take 16 (.take 17 (.take 19 (.take 20 (.alt 18 (.take 21 (.take 22 (.take 23 .done))) .stop)))))))))))))))) .stop))) .stop)))] }
def F_ref03_Within (p : Array Value) (q : Array Value) (h : Heap) (R : Value → Heap → Prop) : Prop :=
  newBlk h (28 : Nat) p fun (b0 : Nat) (h1 : Heap) =>
  newBlk h1 (28 : Nat) q fun (b2 : Nat) (h3 : Heap) =>
    ∃ (cs4 : Array Value),
      row h3 (Addr.mk b0 (0 : Nat) none) (33 : Nat) = some cs4 ∧
        CallsH Try.prog n_ref03_Formed #[Value.agg cs4] h3 fun (v5 : Value) (h6 : Heap) =>
          Ext h3 h6 ∧
            ∃ (t7 : Bool),
              v5 = Value.bool t7 ∧
                br t7
                  (∃ (cs8 : Array Value),
                    row h6 (Addr.mk b2 (0 : Nat) none) (33 : Nat) = some cs8 ∧
                      CallsH Try.prog n_ref03_Formed #[Value.agg cs8] h6 fun (v9 : Value) (h10 : Heap) =>
                        Ext h6 h10 ∧
                          ∃ (t11 : Bool),
                            v9 = Value.bool t11 ∧
                              br t11
                                (∃ (n12 : Int),
                                  cell h10 (Addr.add (Addr.mk b0 (0 : Nat) none) (0 : Nat)) = some (Value.int IntKind.i64 n12) ∧
                                    ∃ (n13 : Int),
                                      cell h10 (Addr.add (Addr.mk b2 (0 : Nat) none) (0 : Nat)) = some (Value.int IntKind.i64 n13) ∧
                                        br (decide (n12 ≤ n13))
                                          (∃ (cs14 : Array Value),
                                            row h10 (Addr.add (Addr.mk b0 (0 : Nat) none) (1 : Nat)) (32 : Nat) = some cs14 ∧
                                              ∃ (cs15 : Array Value),
                                                row h10 (Addr.add (Addr.mk b2 (0 : Nat) none) (1 : Nat)) (32 : Nat) = some cs15 ∧
                                                  ∃ (n16 : Int),
                                                    cell h10 (Addr.add (Addr.mk b0 (0 : Nat) none) (0 : Nat)) = some (Value.int IntKind.i64 n16) ∧
                                                      CallsH Try.prog n_ref03_Shared #[Value.agg cs14, Value.agg cs15] h10 fun (v17 : Value) (h18 : Heap) =>
                                                        Ext h10 h18 ∧ ∃ (n19 : Int), v17 = Value.int IntKind.i64 n19 ∧ R (Value.bool (decide (n19 ≥ n16))) h18)
                                          (R (Value.bool false) h10))
                                (R (Value.bool false) h10))
                  (R (Value.bool false) h6)
theorem C_ref03_Within (p : Array Value) (q : Array Value) {h : Heap} {R : Value → Heap → Prop} (H : F_ref03_Within p q h R) : CallsH Try.prog n_ref03_Within [(.agg p), (.agg q)].toArray h R :=
  fn_sound (A := A_ref03_Within) (Eq.mp (by kernel_rfl : F_ref03_Within p q h R = fnVc Go.Proofs.Try.prog A_ref03_Within 27 [(.agg p), (.agg q)] h R) H)

/- rolodex/rolodexref03.Set -/
def A_ref03_Set : Ann := { qs := [9, 10, 11, 12, 13, 14, 15, 16, 17, 18, 19, 20, 21, 22, 23, 24, 25, 26, 27, 28, 29, 30, 32], loops := [(4, [(5, (.int .i64)), (6, (.int .i64))])] }
def F_ref03_Set (k : Array Value) (i : Int) (h : Heap) (R : Value → Heap → Prop) : Prop :=
  newBlk h (23 : Nat) k fun (b0 : Nat) (h1 : Heap) =>
  newBlk h1 (23 : Nat) (List.toArray (List.replicate (32 : Nat) (Value.int IntKind.u8 (0 : Int)))) fun (b2 : Nat) (h3 : Heap) =>
    ∃ (cs4 : Array Value),
      row h3 (Addr.mk b0 (0 : Nat) none) (32 : Nat) = some cs4 ∧
        CallsH Try.prog n_ref03_Bit #[Value.agg cs4, Value.int IntKind.i64 i] h3 fun (v5 : Value) (h6 : Heap) =>
          Ext h3 h6 ∧
            ∃ (n7 : Int),
              v5 = Value.int IntKind.i64 n7 ∧
                br (n7 == (0 : Int))
                  (∃ (I8 : Int × Int → Heap → Prop),
                    ∃ (μ9 : Int × Int → Heap → Nat),
                      I8 ((128 : Int), (0 : Int)) h6 ∧
                        ∀ (s10 : Int × Int) (h11 : Heap),
                          I8 s10 h11 →
                            (8 : Int) ≠ (0 : Int) ∧
                              br (decide (Prod.snd s10 < Int.tmod i (8 : Int)))
                                ((2 : Int) ≠ (0 : Int) ∧
                                  I8 (IntKind.wrap IntKind.i64 (Int.tdiv (Prod.fst s10) (2 : Int)), IntKind.wrap IntKind.i64 (Prod.snd s10 + (1 : Int))) h11 ∧
                                    μ9 (IntKind.wrap IntKind.i64 (Int.tdiv (Prod.fst s10) (2 : Int)), IntKind.wrap IntKind.i64 (Prod.snd s10 + (1 : Int))) h11 < μ9 s10 h11)
                                ((8 : Int) ≠ (0 : Int) ∧
                                  (0 : Int) ≤ IntKind.wrap IntKind.i64 (Int.tdiv i (8 : Int)) ∧
                                    IntKind.wrap IntKind.i64 (Int.tdiv i (8 : Int)) < (↑(32 : Nat) : Int) ∧
                                      ∃ (n12 : Int),
                                        cell h11 (Addr.add (Addr.mk b0 (0 : Nat) none) (Int.toNat (IntKind.wrap IntKind.i64 (Int.tdiv i (8 : Int))) * (1 : Nat))) = some (Value.int IntKind.u8 n12) ∧
                                          (0 : Int) ≤ IntKind.wrap IntKind.i64 (Int.tdiv i (8 : Int)) ∧
                                            IntKind.wrap IntKind.i64 (Int.tdiv i (8 : Int)) < (↑(32 : Nat) : Int) ∧
                                              storeP none h11 (Addr.add (Addr.mk b0 (0 : Nat) none) (Int.toNat (IntKind.wrap IntKind.i64 (Int.tdiv i (8 : Int))) * (1 : Nat)))
                                                (Value.int IntKind.u8 (IntKind.wrap IntKind.u8 (n12 + IntKind.wrap IntKind.u8 (Prod.fst s10)))) fun (h13 : Heap) =>
                                                ∃ (cs14 : Array Value),
                                                  row h13 (Addr.mk b0 (0 : Nat) none) (32 : Nat) = some cs14 ∧
                                                    storeP (some (32 : Nat)) h13 (Addr.mk b2 (0 : Nat) none) (Value.agg cs14) fun (h15 : Heap) =>
                                                      ∃ (cs16 : Array Value), row h15 (Addr.mk b2 (0 : Nat) none) (32 : Nat) = some cs16 ∧ R (Value.agg cs16) h15))
                  (∃ (cs17 : Array Value),
                    row h6 (Addr.mk b0 (0 : Nat) none) (32 : Nat) = some cs17 ∧
                      storeP (some (32 : Nat)) h6 (Addr.mk b2 (0 : Nat) none) (Value.agg cs17) fun (h18 : Heap) =>
                        ∃ (cs19 : Array Value), row h18 (Addr.mk b2 (0 : Nat) none) (32 : Nat) = some cs19 ∧ R (Value.agg cs19) h18)
theorem C_ref03_Set (k : Array Value) (i : Int) {h : Heap} {R : Value → Heap → Prop} (H : F_ref03_Set k i h R) : CallsH Try.prog n_ref03_Set [(.agg k), (.int .i64 i)].toArray h R :=
  fn_sound (A := A_ref03_Set) (Eq.mp (by kernel_rfl : F_ref03_Set k i h R = fnVc Go.Proofs.Try.prog A_ref03_Set 29 [(.agg k), (.int .i64 i)] h R) H)

end Go.Proofs.Ytnaeicepapokjaa
