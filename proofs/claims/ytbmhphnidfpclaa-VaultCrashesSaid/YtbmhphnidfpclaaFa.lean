/- The formulas of some functions, and that each is what its code comes to. Written by a program of ours. -/
import Derived.Test.YtbmhphnidfpclaaV
import Derived.Test.YtbmhphnidfpclaaNm
import Derived.Test.YtbmhphnidfpclaaProg
import Derived.KernelRfl
set_option linter.unusedVariables false
set_option maxRecDepth 100000
namespace Go.Proofs.Ytbmhphnidfpclaa
open Go Go.Vc Go.Proofs

/- slices.Clone[[]byte,byte] -/
def A_slices_Clone_byte_byte : Ann := { qs := [7, 15, 17, 20, 21, 22, 25, 32, 33, 34, 35, 36, 37, 40, 43, 44, 45, 46, 50, 51, 54, 56, 59, 60, 63, 66, 70] }
def F_slices_Clone_byte_byte (s : Option Addr) (s_l : Nat) (s_c : Nat) (h : Heap) (R : Value → Heap → Prop) : Prop :=
  br (Option.isNone s) (R (Value.slice none (0 : Nat) (0 : Nat)) h)
  (newBlk h (5 : Nat) #[] fun (b0 : Nat) (h1 : Heap) =>
    appendP (5 : Nat) (1 : Nat) (1 : Nat) #[Value.int IntKind.u8 (0 : Int)] (some (Addr.mk b0 (0 : Nat) none)) (0 : Nat) (0 : Nat) s s_l h1 fun (p2 : Option Addr) (l3 c4 : Nat) (h5 : Heap) =>
      R (Value.slice p2 l3 c4) h5)
theorem C_slices_Clone_byte_byte (s : Option Addr) (s_l : Nat) (s_c : Nat) {h : Heap} {R : Value → Heap → Prop} (H : F_slices_Clone_byte_byte s s_l s_c h R) : CallsH Try.prog n_slices_Clone_byte_byte [(.slice s s_l s_c)].toArray h R :=
  fn_sound (A := A_slices_Clone_byte_byte) (Eq.mp (by kernel_rfl : F_slices_Clone_byte_byte s s_l s_c h R = fnVc Go.Proofs.Try.prog A_slices_Clone_byte_byte 51 [(.slice s s_l s_c)] h R) H)

/- rolodex/rolodexref01.Same -/
def A_ref01_Same : Ann := { qs := [7, 15, 17, 20, 21, 22, 25, 32, 33, 34, 35, 36, 37, 40, 43, 44, 45, 46, 50, 51, 54, 56, 59, 60, 63, 66, 70], loops := [(4, [(5, (.int .i64))])], plans := [(6, (.take 0 (.take 1 (.take 2 (.take 3 (.take 4 (.take 5 (.take 6 (.take 7 (.take 8 .done))))))))))] }
def F_ref01_Same (a : Option Addr) (a_l : Nat) (a_c : Nat) (b : Option Addr) (b_l : Nat) (b_c : Nat) (h : Heap) (R : Value → Heap → Prop) : Prop :=
  br ((↑a_l : Int) != (↑b_l : Int)) (R (Value.bool false) h)
  (∃ (I0 : Int → Heap → Prop),
    ∃ (μ1 : Int → Heap → Nat),
      I0 (0 : Int) h ∧
        ∀ (n2 : Int) (h3 : Heap),
          I0 n2 h3 →
            br (decide (n2 < (↑a_l : Int)))
              ((0 : Int) ≤ n2 ∧
                n2 < (↑a_l : Int) ∧
                  deref a fun (a4 : Addr) =>
                    ∃ (n5 : Int),
                      cell h3 (Addr.add a4 (Int.toNat n2 * (1 : Nat))) = some (Value.int IntKind.u8 n5) ∧
                        (0 : Int) ≤ n2 ∧
                          n2 < (↑b_l : Int) ∧
                            deref b fun (a6 : Addr) =>
                              ∃ (n7 : Int),
                                cell h3 (Addr.add a6 (Int.toNat n2 * (1 : Nat))) = some (Value.int IntKind.u8 n7) ∧
                                  br (n5 != n7) (R (Value.bool false) h3) (I0 (IntKind.wrap IntKind.i64 (n2 + (1 : Int))) h3 ∧ μ1 (IntKind.wrap IntKind.i64 (n2 + (1 : Int))) h3 < μ1 n2 h3))
              (R (Value.bool true) h3))
theorem C_ref01_Same (a : Option Addr) (a_l : Nat) (a_c : Nat) (b : Option Addr) (b_l : Nat) (b_c : Nat) {h : Heap} {R : Value → Heap → Prop} (H : F_ref01_Same a a_l a_c b b_l b_c h R) : CallsH Try.prog n_ref01_Same [(.slice a a_l a_c), (.slice b b_l b_c)].toArray h R :=
  fn_sound (A := A_ref01_Same) (Eq.mp (by kernel_rfl : F_ref01_Same a a_l a_c b b_l b_c h R = fnVc Go.Proofs.Try.prog A_ref01_Same 34 [(.slice a a_l a_c), (.slice b b_l b_c)] h R) H)

/- (*rolodex/wire.Writer).U8 -/
def A_wire_Writer_U8 : Ann := { qs := [7, 15, 17, 20, 21, 22, 25, 32, 33, 34, 35, 36, 37, 40, 43, 44, 45, 46, 50, 51, 54, 56, 59, 60, 63, 66, 70] }
def F_wire_Writer_U8 (w : Option Addr) (x : Int) (h : Heap) (R : Value → Heap → Prop) : Prop :=
  CallsH Try.prog n_wire_Writer_within #[Value.pointer w, Value.int IntKind.i64 x, Value.int IntKind.i64 (255 : Int)] h fun (v0 : Value) (h1 : Heap) =>
  ∃ (t2 : Bool),
    v0 = Value.bool t2 ∧
      br t2
        (CallsH Try.prog n_wire_Writer_number #[Value.pointer w, Value.int IntKind.u64 (IntKind.wrap IntKind.u64 x), Value.int IntKind.i64 (1 : Int)] h1 fun (v3 : Value) (h4 : Heap) =>
          v3 = Value.tuple #[] ∧ R (Value.tuple #[]) h4)
        (R (Value.tuple #[]) h1)
theorem C_wire_Writer_U8 (w : Option Addr) (x : Int) {h : Heap} {R : Value → Heap → Prop} (H : F_wire_Writer_U8 w x h R) : CallsH Try.prog n_wire_Writer_U8 [(.pointer w), (.int .i64 x)].toArray h R :=
  fn_sound (A := A_wire_Writer_U8) (Eq.mp (by kernel_rfl : F_wire_Writer_U8 w x h R = fnVc Go.Proofs.Try.prog A_wire_Writer_U8 67 [(.pointer w), (.int .i64 x)] h R) H)

/- (*rolodex/wire.Writer).U32 -/
def A_wire_Writer_U32 : Ann := { qs := [7, 15, 17, 20, 21, 22, 25, 32, 33, 34, 35, 36, 37, 40, 43, 44, 45, 46, 50, 51, 54, 56, 59, 60, 63, 66, 70] }
def F_wire_Writer_U32 (w : Option Addr) (x : Int) (h : Heap) (R : Value → Heap → Prop) : Prop :=
  CallsH Try.prog n_wire_Writer_number #[Value.pointer w, Value.int IntKind.u64 (IntKind.wrap IntKind.u64 x), Value.int IntKind.i64 (4 : Int)] h fun (v0 : Value) (h1 : Heap) =>
  v0 = Value.tuple #[] ∧ R (Value.tuple #[]) h1
theorem C_wire_Writer_U32 (w : Option Addr) (x : Int) {h : Heap} {R : Value → Heap → Prop} (H : F_wire_Writer_U32 w x h R) : CallsH Try.prog n_wire_Writer_U32 [(.pointer w), (.int .u32 x)].toArray h R :=
  fn_sound (A := A_wire_Writer_U32) (Eq.mp (by kernel_rfl : F_wire_Writer_U32 w x h R = fnVc Go.Proofs.Try.prog A_wire_Writer_U32 62 [(.pointer w), (.int .u32 x)] h R) H)

/- (*rolodex/wire.Writer).U64 -/
def A_wire_Writer_U64 : Ann := { qs := [7, 15, 17, 20, 21, 22, 25, 32, 33, 34, 35, 36, 37, 40, 43, 44, 45, 46, 50, 51, 54, 56, 59, 60, 63, 66, 70] }
def F_wire_Writer_U64 (w : Option Addr) (x : Int) (h : Heap) (R : Value → Heap → Prop) : Prop :=
  CallsH Try.prog n_wire_Writer_number #[Value.pointer w, Value.int IntKind.u64 x, Value.int IntKind.i64 (8 : Int)] h fun (v0 : Value) (h1 : Heap) => v0 = Value.tuple #[] ∧ R (Value.tuple #[]) h1
theorem C_wire_Writer_U64 (w : Option Addr) (x : Int) {h : Heap} {R : Value → Heap → Prop} (H : F_wire_Writer_U64 w x h R) : CallsH Try.prog n_wire_Writer_U64 [(.pointer w), (.int .u64 x)].toArray h R :=
  fn_sound (A := A_wire_Writer_U64) (Eq.mp (by kernel_rfl : F_wire_Writer_U64 w x h R = fnVc Go.Proofs.Try.prog A_wire_Writer_U64 65 [(.pointer w), (.int .u64 x)] h R) H)

/- (*rolodex/wire.Writer).Flag -/
def A_wire_Writer_Flag : Ann := { qs := [7, 15, 17, 20, 21, 22, 25, 32, 33, 34, 35, 36, 37, 40, 43, 44, 45, 46, 50, 51, 54, 56, 59, 60, 63, 66, 70] }
def F_wire_Writer_Flag (w : Option Addr) (b : Bool) (h : Heap) (R : Value → Heap → Prop) : Prop :=
  br b (CallsH Try.prog n_wire_Writer_number #[Value.pointer w, Value.int IntKind.u64 (1 : Int), Value.int IntKind.i64 (1 : Int)] h fun (v0 : Value) (h1 : Heap) => v0 = Value.tuple #[] ∧ R (Value.tuple #[]) h1)
  (CallsH Try.prog n_wire_Writer_number #[Value.pointer w, Value.int IntKind.u64 (0 : Int), Value.int IntKind.i64 (1 : Int)] h fun (v2 : Value) (h3 : Heap) => v2 = Value.tuple #[] ∧ R (Value.tuple #[]) h3)
theorem C_wire_Writer_Flag (w : Option Addr) (b : Bool) {h : Heap} {R : Value → Heap → Prop} (H : F_wire_Writer_Flag w b h R) : CallsH Try.prog n_wire_Writer_Flag [(.pointer w), (.bool b)].toArray h R :=
  fn_sound (A := A_wire_Writer_Flag) (Eq.mp (by kernel_rfl : F_wire_Writer_Flag w b h R = fnVc Go.Proofs.Try.prog A_wire_Writer_Flag 61 [(.pointer w), (.bool b)] h R) H)

/- (*rolodex/wire.Writer).String -/
def A_wire_Writer_String : Ann := { qs := [7, 15, 17, 20, 21, 22, 25, 32, 33, 34, 35, 36, 37, 40, 43, 44, 45, 46, 50, 51, 54, 56, 59, 60, 63, 66, 70] }
def F_wire_Writer_String (w : Option Addr) (b : Option Addr) (b_l : Nat) (b_c : Nat) (h : Heap) (R : Value → Heap → Prop) : Prop :=
  CallsH Try.prog n_wire_Writer_within #[Value.pointer w, Value.int IntKind.i64 (↑b_l : Int), Value.int IntKind.i64 (8192 : Int)] h fun (v0 : Value) (h1 : Heap) =>
  ∃ (t2 : Bool),
    v0 = Value.bool t2 ∧
      br t2
        (CallsH Try.prog n_wire_Writer_number #[Value.pointer w, Value.int IntKind.u64 (IntKind.wrap IntKind.u64 (↑b_l : Int)), Value.int IntKind.i64 (2 : Int)] h1 fun (v3 : Value) (h4 : Heap) =>
          v3 = Value.tuple #[] ∧ CallsH Try.prog n_wire_Writer_Plain #[Value.pointer w, Value.slice b b_l b_c] h4 fun (v5 : Value) (h6 : Heap) => v5 = Value.tuple #[] ∧ R (Value.tuple #[]) h6)
        (R (Value.tuple #[]) h1)
theorem C_wire_Writer_String (w : Option Addr) (b : Option Addr) (b_l : Nat) (b_c : Nat) {h : Heap} {R : Value → Heap → Prop} (H : F_wire_Writer_String w b b_l b_c h R) : CallsH Try.prog n_wire_Writer_String [(.pointer w), (.slice b b_l b_c)].toArray h R :=
  fn_sound (A := A_wire_Writer_String) (Eq.mp (by kernel_rfl : F_wire_Writer_String w b b_l b_c h R = fnVc Go.Proofs.Try.prog A_wire_Writer_String 72 [(.pointer w), (.slice b b_l b_c)] h R) H)

/- (*rolodex/wire.Writer).Plain -/
def A_wire_Writer_Plain : Ann := { qs := [7, 15, 17, 20, 21, 22, 25, 32, 33, 34, 35, 36, 37, 40, 43, 44, 45, 46, 50, 51, 54, 56, 59, 60, 63, 66, 70] }
def F_wire_Writer_Plain (w : Option Addr) (b : Option Addr) (b_l : Nat) (b_c : Nat) (h : Heap) (R : Value → Heap → Prop) : Prop :=
  br (!Option.isNone w)
  (deref w fun (a0 : Addr) =>
    ∃ (t1 : Bool),
      cell h (Addr.add a0 (1 : Nat)) = some (Value.bool t1) ∧
        br (!t1)
          (deref w fun (a2 : Addr) =>
            ∃ (p3 : Option Addr),
              ∃ (l4 : Nat),
                ∃ (c5 : Nat),
                  cell h (Addr.add a2 (0 : Nat)) = some (Value.slice p3 l4 c5) ∧
                    appendP (5 : Nat) (1 : Nat) (1 : Nat) #[Value.int IntKind.u8 (0 : Int)] p3 l4 c5 b b_l h fun (p6 : Option Addr) (l7 c8 : Nat) (h9 : Heap) =>
                      deref w fun (a10 : Addr) => storeP none h9 a10 (Value.slice p6 l7 c8) fun (h11 : Heap) => R (Value.tuple #[]) h11)
          (R (Value.tuple #[]) h))
  (R (Value.tuple #[]) h)
theorem C_wire_Writer_Plain (w : Option Addr) (b : Option Addr) (b_l : Nat) (b_c : Nat) {h : Heap} {R : Value → Heap → Prop} (H : F_wire_Writer_Plain w b b_l b_c h R) : CallsH Try.prog n_wire_Writer_Plain [(.pointer w), (.slice b b_l b_c)].toArray h R :=
  fn_sound (A := A_wire_Writer_Plain) (Eq.mp (by kernel_rfl : F_wire_Writer_Plain w b b_l b_c h R = fnVc Go.Proofs.Try.prog A_wire_Writer_Plain 68 [(.pointer w), (.slice b b_l b_c)] h R) H)

/- (*rolodex/wire.Writer).Out -/
def A_wire_Writer_Out : Ann := { qs := [7, 15, 17, 20, 21, 22, 25, 32, 33, 34, 35, 36, 37, 40, 43, 44, 45, 46, 50, 51, 54, 56, 59, 60, 63, 66, 70] }
def F_wire_Writer_Out (w : Option Addr) (h : Heap) (R : Value → Heap → Prop) : Prop :=
  br (Option.isNone w) (R (Value.tuple #[Value.slice none (0 : Nat) (0 : Nat), Value.int IntKind.i64 (1 : Int)]) h)
  (deref w fun (a0 : Addr) =>
    ∃ (t1 : Bool),
      cell h (Addr.add a0 (1 : Nat)) = some (Value.bool t1) ∧
        br t1 (R (Value.tuple #[Value.slice none (0 : Nat) (0 : Nat), Value.int IntKind.i64 (4 : Int)]) h)
          (deref w fun (a2 : Addr) =>
            ∃ (p3 : Option Addr),
              ∃ (l4 : Nat),
                ∃ (c5 : Nat),
                  cell h (Addr.add a2 (0 : Nat)) = some (Value.slice p3 l4 c5) ∧
                    CallsH Try.prog n_slices_Clone_byte_byte #[Value.slice p3 l4 c5] h fun (v6 : Value) (h7 : Heap) =>
                      Ext h h7 ∧ ∃ (p8 : Option Addr), ∃ (l9 : Nat), ∃ (c10 : Nat), v6 = Value.slice p8 l9 c10 ∧ R (Value.tuple #[Value.slice p8 l9 c10, Value.int IntKind.i64 (0 : Int)]) h7))
theorem C_wire_Writer_Out (w : Option Addr) {h : Heap} {R : Value → Heap → Prop} (H : F_wire_Writer_Out w h R) : CallsH Try.prog n_wire_Writer_Out [(.pointer w)].toArray h R :=
  fn_sound (A := A_wire_Writer_Out) (Eq.mp (by kernel_rfl : F_wire_Writer_Out w h R = fnVc Go.Proofs.Try.prog A_wire_Writer_Out 63 [(.pointer w)] h R) H)

/- (*rolodex/wire.Writer).number -/
def A_wire_Writer_number : Ann := { qs := [7, 15, 17, 20, 21, 22, 25, 32, 33, 34, 35, 36, 37, 40, 43, 44, 45, 46, 50, 51, 54, 56, 59, 60, 63, 66, 70], loops := [(2, [(6, (.int .i64))])], plans := [(4, (.take 0 (.take 1 (.take 2 (.take 3 (.take 4 (.take 5 (.take 6 (.take 7 (.take 8 (.take 9 (.alt 10 (.alt 11 (.take 12 (.take 13 (.alt 14 .done .stop))) .stop) .stop))))))))))))] }
def F_wire_Writer_number (w : Option Addr) (x : Int) (bytes : Int) (h : Heap) (R : Value → Heap → Prop) : Prop :=
  br (Option.isNone w) (R (Value.tuple #[]) h)
  (deref w fun (a0 : Addr) =>
    ∃ (t1 : Bool),
      cell h (Addr.add a0 (1 : Nat)) = some (Value.bool t1) ∧
        br t1 (R (Value.tuple #[]) h)
          (∃ (I2 : Int → Heap → Prop),
            ∃ (μ3 : Int → Heap → Nat),
              I2 (IntKind.wrap IntKind.i64 (bytes - (1 : Int))) h ∧
                ∀ (n4 : Int) (h5 : Heap),
                  I2 n4 h5 →
                    br (decide (n4 ≥ (0 : Int)))
                      (deref w fun (a6 : Addr) =>
                        ∃ (p7 : Option Addr),
                          ∃ (l8 : Nat),
                            ∃ (c9 : Nat),
                              cell h5 (Addr.add a6 (0 : Nat)) = some (Value.slice p7 l8 c9) ∧
                                (0 : Int) ≤ IntKind.wrap IntKind.i64 ((8 : Int) * n4) ∧
                                  newBlk h5 (5 : Nat) #[Value.int IntKind.u8 (IntKind.wrap IntKind.u8 (shrI IntKind.u64 x (IntKind.wrap IntKind.i64 ((8 : Int) * n4))))] fun (b10 : Nat) (h11 : Heap) =>
                                    appendP (5 : Nat) (1 : Nat) (1 : Nat) #[Value.int IntKind.u8 (0 : Int)] p7 l8 c9 (some (Addr.mk b10 (0 : Nat) none)) (1 : Nat) h11
                                      fun (p12 : Option Addr) (l13 c14 : Nat) (h15 : Heap) =>
                                      deref w fun (a16 : Addr) =>
                                        storeP none h15 a16 (Value.slice p12 l13 c14) fun (h17 : Heap) =>
                                          I2 (IntKind.wrap IntKind.i64 (n4 - (1 : Int))) h17 ∧ μ3 (IntKind.wrap IntKind.i64 (n4 - (1 : Int))) h17 < μ3 n4 h5)
                      (R (Value.tuple #[]) h5)))
theorem C_wire_Writer_number (w : Option Addr) (x : Int) (bytes : Int) {h : Heap} {R : Value → Heap → Prop} (H : F_wire_Writer_number w x bytes h R) : CallsH Try.prog n_wire_Writer_number [(.pointer w), (.int .u64 x), (.int .i64 bytes)].toArray h R :=
  fn_sound (A := A_wire_Writer_number) (Eq.mp (by kernel_rfl : F_wire_Writer_number w x bytes h R = fnVc Go.Proofs.Try.prog A_wire_Writer_number 73 [(.pointer w), (.int .u64 x), (.int .i64 bytes)] h R) H)

/- (*rolodex/wire.Writer).within -/
def A_wire_Writer_within : Ann := { qs := [7, 15, 17, 20, 21, 22, 25, 32, 33, 34, 35, 36, 37, 40, 43, 44, 45, 46, 50, 51, 54, 56, 59, 60, 63, 66, 70] }
def F_wire_Writer_within (w : Option Addr) (x : Int) (most : Int) (h : Heap) (R : Value → Heap → Prop) : Prop :=
  br (Option.isNone w) (R (Value.bool false) h)
  (br (decide (x < (0 : Int)))
    (deref w fun (a0 : Addr) =>
      storeP none h (Addr.mk (Addr.block a0) (Addr.off a0 + (1 : Nat)) none) (Value.bool true) fun (h1 : Heap) =>
        deref w fun (a2 : Addr) => ∃ (t3 : Bool), cell h1 (Addr.add a2 (1 : Nat)) = some (Value.bool t3) ∧ R (Value.bool !t3) h1)
    (br (decide (x > most))
      (deref w fun (a4 : Addr) =>
        storeP none h (Addr.mk (Addr.block a4) (Addr.off a4 + (1 : Nat)) none) (Value.bool true) fun (h5 : Heap) =>
          deref w fun (a6 : Addr) => ∃ (t7 : Bool), cell h5 (Addr.add a6 (1 : Nat)) = some (Value.bool t7) ∧ R (Value.bool !t7) h5)
      (deref w fun (a8 : Addr) => ∃ (t9 : Bool), cell h (Addr.add a8 (1 : Nat)) = some (Value.bool t9) ∧ R (Value.bool !t9) h)))
theorem C_wire_Writer_within (w : Option Addr) (x : Int) (most : Int) {h : Heap} {R : Value → Heap → Prop} (H : F_wire_Writer_within w x most h R) : CallsH Try.prog n_wire_Writer_within [(.pointer w), (.int .i64 x), (.int .i64 most)].toArray h R :=
  fn_sound (A := A_wire_Writer_within) (Eq.mp (by kernel_rfl : F_wire_Writer_within w x most h R = fnVc Go.Proofs.Try.prog A_wire_Writer_within 74 [(.pointer w), (.int .i64 x), (.int .i64 most)] h R) H)

/- rolodex/wire.New -/
def A_wire_New : Ann := { qs := [7, 15, 17, 20, 21, 22, 25, 32, 33, 34, 35, 36, 37, 40, 43, 44, 45, 46, 50, 51, 54, 56, 59, 60, 63, 66, 70] }
def F_wire_New (b : Option Addr) (b_l : Nat) (b_c : Nat) (h : Heap) (R : Value → Heap → Prop) : Prop :=
  CallsH Try.prog n_slices_Clone_byte_byte #[Value.slice b b_l b_c] h fun (v0 : Value) (h1 : Heap) =>
  Ext h h1 ∧
    ∃ (p2 : Option Addr),
      ∃ (l3 : Nat),
        ∃ (c4 : Nat), v0 = Value.slice p2 l3 c4 ∧ newBlk h1 (101 : Nat) #[Value.slice p2 l3 c4, Value.bool false] fun (b5 : Nat) (h6 : Heap) => R (Value.pointer (some (Addr.mk b5 (0 : Nat) none))) h6
theorem C_wire_New (b : Option Addr) (b_l : Nat) (b_c : Nat) {h : Heap} {R : Value → Heap → Prop} (H : F_wire_New b b_l b_c h R) : CallsH Try.prog n_wire_New [(.slice b b_l b_c)].toArray h R :=
  fn_sound (A := A_wire_New) (Eq.mp (by kernel_rfl : F_wire_New b b_l b_c h R = fnVc Go.Proofs.Try.prog A_wire_New 37 [(.slice b b_l b_c)] h R) H)

/- (*rolodex/wire.Reader).U8 -/
def A_wire_Reader_U8 : Ann := { qs := [7, 15, 17, 20, 21, 22, 25, 32, 33, 34, 35, 36, 37, 40, 43, 44, 45, 46, 50, 51, 54, 56, 59, 60, 63, 66, 70] }
def F_wire_Reader_U8 (r : Option Addr) (h : Heap) (R : Value → Heap → Prop) : Prop :=
  CallsH Try.prog n_wire_Reader_number #[Value.pointer r, Value.int IntKind.i64 (1 : Int)] h fun (v0 : Value) (h1 : Heap) =>
  ∃ (n2 : Int), v0 = Value.int IntKind.u64 n2 ∧ R (Value.int IntKind.i64 (IntKind.wrap IntKind.i64 n2)) h1
theorem C_wire_Reader_U8 (r : Option Addr) {h : Heap} {R : Value → Heap → Prop} (H : F_wire_Reader_U8 r h R) : CallsH Try.prog n_wire_Reader_U8 [(.pointer r)].toArray h R :=
  fn_sound (A := A_wire_Reader_U8) (Eq.mp (by kernel_rfl : F_wire_Reader_U8 r h R = fnVc Go.Proofs.Try.prog A_wire_Reader_U8 64 [(.pointer r)] h R) H)

/- (*rolodex/wire.Reader).U32 -/
def A_wire_Reader_U32 : Ann := { qs := [7, 15, 17, 20, 21, 22, 25, 32, 33, 34, 35, 36, 37, 40, 43, 44, 45, 46, 50, 51, 54, 56, 59, 60, 63, 66, 70] }
def F_wire_Reader_U32 (r : Option Addr) (h : Heap) (R : Value → Heap → Prop) : Prop :=
  CallsH Try.prog n_wire_Reader_number #[Value.pointer r, Value.int IntKind.i64 (4 : Int)] h fun (v0 : Value) (h1 : Heap) =>
  ∃ (n2 : Int), v0 = Value.int IntKind.u64 n2 ∧ R (Value.int IntKind.u32 (IntKind.wrap IntKind.u32 n2)) h1
theorem C_wire_Reader_U32 (r : Option Addr) {h : Heap} {R : Value → Heap → Prop} (H : F_wire_Reader_U32 r h R) : CallsH Try.prog n_wire_Reader_U32 [(.pointer r)].toArray h R :=
  fn_sound (A := A_wire_Reader_U32) (Eq.mp (by kernel_rfl : F_wire_Reader_U32 r h R = fnVc Go.Proofs.Try.prog A_wire_Reader_U32 39 [(.pointer r)] h R) H)

/- (*rolodex/wire.Reader).U64 -/
def A_wire_Reader_U64 : Ann := { qs := [7, 15, 17, 20, 21, 22, 25, 32, 33, 34, 35, 36, 37, 40, 43, 44, 45, 46, 50, 51, 54, 56, 59, 60, 63, 66, 70] }
def F_wire_Reader_U64 (r : Option Addr) (h : Heap) (R : Value → Heap → Prop) : Prop :=
  CallsH Try.prog n_wire_Reader_number #[Value.pointer r, Value.int IntKind.i64 (8 : Int)] h fun (v0 : Value) (h1 : Heap) => ∃ (n2 : Int), v0 = Value.int IntKind.u64 n2 ∧ R (Value.int IntKind.u64 n2) h1
theorem C_wire_Reader_U64 (r : Option Addr) {h : Heap} {R : Value → Heap → Prop} (H : F_wire_Reader_U64 r h R) : CallsH Try.prog n_wire_Reader_U64 [(.pointer r)].toArray h R :=
  fn_sound (A := A_wire_Reader_U64) (Eq.mp (by kernel_rfl : F_wire_Reader_U64 r h R = fnVc Go.Proofs.Try.prog A_wire_Reader_U64 52 [(.pointer r)] h R) H)

/- (*rolodex/wire.Reader).Flag -/
def A_wire_Reader_Flag : Ann := { qs := [7, 15, 17, 20, 21, 22, 25, 32, 33, 34, 35, 36, 37, 40, 43, 44, 45, 46, 50, 51, 54, 56, 59, 60, 63, 66, 70] }
def F_wire_Reader_Flag (r : Option Addr) (h : Heap) (R : Value → Heap → Prop) : Prop :=
  CallsH Try.prog n_wire_Reader_peek #[Value.pointer r, Value.int IntKind.i64 (1 : Int)] h fun (v0 : Value) (h1 : Heap) =>
  Ext h h1 ∧
    ∃ (n2 : Int),
      ∃ (t3 : Bool),
        v0 = Value.tuple #[Value.int IntKind.u64 n2, Value.bool t3] ∧
          br (!t3)
            (CallsH Try.prog n_wire_Reader_spoil #[Value.pointer r] h1 fun (v4 : Value) (h5 : Heap) =>
              v4 = Value.tuple #[] ∧
                CallsH Try.prog n_wire_Reader_number #[Value.pointer r, Value.int IntKind.i64 (1 : Int)] h5 fun (v6 : Value) (h7 : Heap) =>
                  ∃ (n8 : Int), v6 = Value.int IntKind.u64 n8 ∧ R (Value.bool (n8 == (1 : Int))) h7)
            (br (decide (n2 > (1 : Int)))
              (CallsH Try.prog n_wire_Reader_spoil #[Value.pointer r] h1 fun (v9 : Value) (h10 : Heap) =>
                v9 = Value.tuple #[] ∧
                  CallsH Try.prog n_wire_Reader_number #[Value.pointer r, Value.int IntKind.i64 (1 : Int)] h10 fun (v11 : Value) (h12 : Heap) =>
                    ∃ (n13 : Int), v11 = Value.int IntKind.u64 n13 ∧ R (Value.bool (n13 == (1 : Int))) h12)
              (CallsH Try.prog n_wire_Reader_number #[Value.pointer r, Value.int IntKind.i64 (1 : Int)] h1 fun (v14 : Value) (h15 : Heap) =>
                ∃ (n16 : Int), v14 = Value.int IntKind.u64 n16 ∧ R (Value.bool (n16 == (1 : Int))) h15))
theorem C_wire_Reader_Flag (r : Option Addr) {h : Heap} {R : Value → Heap → Prop} (H : F_wire_Reader_Flag r h R) : CallsH Try.prog n_wire_Reader_Flag [(.pointer r)].toArray h R :=
  fn_sound (A := A_wire_Reader_Flag) (Eq.mp (by kernel_rfl : F_wire_Reader_Flag r h R = fnVc Go.Proofs.Try.prog A_wire_Reader_Flag 38 [(.pointer r)] h R) H)

/- (*rolodex/wire.Reader).String -/
def A_wire_Reader_String : Ann := { qs := [7, 15, 17, 20, 21, 22, 25, 32, 33, 34, 35, 36, 37, 40, 43, 44, 45, 46, 50, 51, 54, 56, 59, 60, 63, 66, 70] }
def F_wire_Reader_String (r : Option Addr) (most : Int) (h : Heap) (R : Value → Heap → Prop) : Prop :=
  CallsH Try.prog n_wire_Reader_peek #[Value.pointer r, Value.int IntKind.i64 (2 : Int)] h fun (v0 : Value) (h1 : Heap) =>
  Ext h h1 ∧
    ∃ (n2 : Int),
      ∃ (t3 : Bool),
        v0 = Value.tuple #[Value.int IntKind.u64 n2, Value.bool t3] ∧
          br (!t3) (CallsH Try.prog n_wire_Reader_spoil #[Value.pointer r] h1 fun (v4 : Value) (h5 : Heap) => v4 = Value.tuple #[] ∧ R (Value.slice none (0 : Nat) (0 : Nat)) h5)
            (br (decide (IntKind.wrap IntKind.i64 n2 > most))
              (CallsH Try.prog n_wire_Reader_spoil #[Value.pointer r] h1 fun (v6 : Value) (h7 : Heap) => v6 = Value.tuple #[] ∧ R (Value.slice none (0 : Nat) (0 : Nat)) h7)
              (br (decide (n2 > (8192 : Int))) (CallsH Try.prog n_wire_Reader_spoil #[Value.pointer r] h1 fun (v8 : Value) (h9 : Heap) => v8 = Value.tuple #[] ∧ R (Value.slice none (0 : Nat) (0 : Nat)) h9)
                (CallsH Try.prog n_wire_Reader_Left #[Value.pointer r] h1 fun (v10 : Value) (h11 : Heap) =>
                  Ext h1 h11 ∧
                    ∃ (n12 : Int),
                      v10 = Value.int IntKind.i64 n12 ∧
                        br (decide (IntKind.wrap IntKind.i64 n2 > IntKind.wrap IntKind.i64 (n12 - (2 : Int))))
                          (CallsH Try.prog n_wire_Reader_spoil #[Value.pointer r] h11 fun (v13 : Value) (h14 : Heap) => v13 = Value.tuple #[] ∧ R (Value.slice none (0 : Nat) (0 : Nat)) h14)
                          (CallsH Try.prog n_wire_Reader_number #[Value.pointer r, Value.int IntKind.i64 (2 : Int)] h11 fun (v15 : Value) (h16 : Heap) =>
                            ∃ (n17 : Int),
                              v15 = Value.int IntKind.u64 n17 ∧
                                CallsH Try.prog n_wire_Reader_takes #[Value.pointer r, Value.int IntKind.i64 (IntKind.wrap IntKind.i64 n2)] h16 fun (v18 : Value) (h19 : Heap) =>
                                  ∃ (p20 : Option Addr), ∃ (l21 : Nat), ∃ (c22 : Nat), v18 = Value.slice p20 l21 c22 ∧ R (Value.slice p20 l21 c22) h19))))
theorem C_wire_Reader_String (r : Option Addr) (most : Int) {h : Heap} {R : Value → Heap → Prop} (H : F_wire_Reader_String r most h R) : CallsH Try.prog n_wire_Reader_String [(.pointer r), (.int .i64 most)].toArray h R :=
  fn_sound (A := A_wire_Reader_String) (Eq.mp (by kernel_rfl : F_wire_Reader_String r most h R = fnVc Go.Proofs.Try.prog A_wire_Reader_String 53 [(.pointer r), (.int .i64 most)] h R) H)

/- (*rolodex/wire.Reader).Plain -/
def A_wire_Reader_Plain : Ann := { qs := [7, 15, 17, 20, 21, 22, 25, 32, 33, 34, 35, 36, 37, 40, 43, 44, 45, 46, 50, 51, 54, 56, 59, 60, 63, 66, 70] }
def F_wire_Reader_Plain (r : Option Addr) (n : Int) (h : Heap) (R : Value → Heap → Prop) : Prop :=
  CallsH Try.prog n_wire_Reader_takes #[Value.pointer r, Value.int IntKind.i64 n] h fun (v0 : Value) (h1 : Heap) =>
  ∃ (p2 : Option Addr), ∃ (l3 : Nat), ∃ (c4 : Nat), v0 = Value.slice p2 l3 c4 ∧ R (Value.slice p2 l3 c4) h1
theorem C_wire_Reader_Plain (r : Option Addr) (n : Int) {h : Heap} {R : Value → Heap → Prop} (H : F_wire_Reader_Plain r n h R) : CallsH Try.prog n_wire_Reader_Plain [(.pointer r), (.int .i64 n)].toArray h R :=
  fn_sound (A := A_wire_Reader_Plain) (Eq.mp (by kernel_rfl : F_wire_Reader_Plain r n h R = fnVc Go.Proofs.Try.prog A_wire_Reader_Plain 55 [(.pointer r), (.int .i64 n)] h R) H)

/- (*rolodex/wire.Reader).Done -/
def A_wire_Reader_Done : Ann := { qs := [7, 15, 17, 20, 21, 22, 25, 32, 33, 34, 35, 36, 37, 40, 43, 44, 45, 46, 50, 51, 54, 56, 59, 60, 63, 66, 70] }
def F_wire_Reader_Done (r : Option Addr) (h : Heap) (R : Value → Heap → Prop) : Prop :=
  CallsH Try.prog n_wire_Reader_Fails #[Value.pointer r] h fun (v0 : Value) (h1 : Heap) =>
  Ext h h1 ∧
    ∃ (t2 : Bool),
      v0 = Value.bool t2 ∧
        br (!t2) (CallsH Try.prog n_wire_Reader_Left #[Value.pointer r] h1 fun (v3 : Value) (h4 : Heap) => Ext h1 h4 ∧ ∃ (n5 : Int), v3 = Value.int IntKind.i64 n5 ∧ R (Value.bool (n5 == (0 : Int))) h4)
          (R (Value.bool false) h1)
theorem C_wire_Reader_Done (r : Option Addr) {h : Heap} {R : Value → Heap → Prop} (H : F_wire_Reader_Done r h R) : CallsH Try.prog n_wire_Reader_Done [(.pointer r)].toArray h R :=
  fn_sound (A := A_wire_Reader_Done) (Eq.mp (by kernel_rfl : F_wire_Reader_Done r h R = fnVc Go.Proofs.Try.prog A_wire_Reader_Done 40 [(.pointer r)] h R) H)

/- (*rolodex/wire.Reader).number -/
def A_wire_Reader_number : Ann := { qs := [7, 15, 17, 20, 21, 22, 25, 32, 33, 34, 35, 36, 37, 40, 43, 44, 45, 46, 50, 51, 54, 56, 59, 60, 63, 66, 70] }
def F_wire_Reader_number (r : Option Addr) (bytes : Int) (h : Heap) (R : Value → Heap → Prop) : Prop :=
  CallsH Try.prog n_wire_Reader_peek #[Value.pointer r, Value.int IntKind.i64 bytes] h fun (v0 : Value) (h1 : Heap) =>
  Ext h h1 ∧
    ∃ (n2 : Int),
      ∃ (t3 : Bool),
        v0 = Value.tuple #[Value.int IntKind.u64 n2, Value.bool t3] ∧
          CallsH Try.prog n_wire_Reader_takes #[Value.pointer r, Value.int IntKind.i64 bytes] h1 fun (v4 : Value) (h5 : Heap) =>
            ∃ (p6 : Option Addr), ∃ (l7 : Nat), ∃ (c8 : Nat), v4 = Value.slice p6 l7 c8 ∧ br (!t3) (R (Value.int IntKind.u64 (0 : Int)) h5) (R (Value.int IntKind.u64 n2) h5)
theorem C_wire_Reader_number (r : Option Addr) (bytes : Int) {h : Heap} {R : Value → Heap → Prop} (H : F_wire_Reader_number r bytes h R) : CallsH Try.prog n_wire_Reader_number [(.pointer r), (.int .i64 bytes)].toArray h R :=
  fn_sound (A := A_wire_Reader_number) (Eq.mp (by kernel_rfl : F_wire_Reader_number r bytes h R = fnVc Go.Proofs.Try.prog A_wire_Reader_number 58 [(.pointer r), (.int .i64 bytes)] h R) H)

/- (*rolodex/wire.Reader).takes -/
def A_wire_Reader_takes : Ann := { qs := [7, 15, 17, 20, 21, 22, 25, 32, 33, 34, 35, 36, 37, 40, 43, 44, 45, 46, 50, 51, 54, 56, 59, 60, 63, 66, 70] }
def F_wire_Reader_takes (r : Option Addr) (n : Int) (h : Heap) (R : Value → Heap → Prop) : Prop :=
  br (Option.isNone r) (R (Value.slice none (0 : Nat) (0 : Nat)) h)
  (deref r fun (a0 : Addr) =>
    ∃ (t1 : Bool),
      cell h (Addr.add a0 (1 : Nat)) = some (Value.bool t1) ∧
        br t1 (R (Value.slice none (0 : Nat) (0 : Nat)) h)
          (br (decide (n < (0 : Int)))
            (deref r fun (a2 : Addr) => storeP none h (Addr.mk (Addr.block a2) (Addr.off a2 + (1 : Nat)) none) (Value.bool true) fun (h3 : Heap) => R (Value.slice none (0 : Nat) (0 : Nat)) h3)
            (deref r fun (a4 : Addr) =>
              ∃ (p5 : Option Addr),
                ∃ (l6 : Nat),
                  ∃ (c7 : Nat),
                    cell h (Addr.add a4 (0 : Nat)) = some (Value.slice p5 l6 c7) ∧
                      br (decide (n > (↑l6 : Int)))
                        (deref r fun (a8 : Addr) =>
                          storeP none h (Addr.mk (Addr.block a8) (Addr.off a8 + (1 : Nat)) none) (Value.bool true) fun (h9 : Heap) => R (Value.slice none (0 : Nat) (0 : Nat)) h9)
                        (deref r fun (a10 : Addr) =>
                          ∃ (p11 : Option Addr),
                            ∃ (l12 : Nat),
                              ∃ (c13 : Nat),
                                cell h (Addr.add a10 (0 : Nat)) = some (Value.slice p11 l12 c13) ∧
                                  sliceP (1 : Nat) p11 (0 : Int) n n c13 fun (p14 : Option Addr) (l15 c16 : Nat) =>
                                    deref r fun (a17 : Addr) =>
                                      ∃ (p18 : Option Addr),
                                        ∃ (l19 : Nat),
                                          ∃ (c20 : Nat),
                                            cell h (Addr.add a17 (0 : Nat)) = some (Value.slice p18 l19 c20) ∧
                                              sliceP (1 : Nat) p18 n (↑l19 : Int) (↑c20 : Int) c20 fun (p21 : Option Addr) (l22 c23 : Nat) =>
                                                deref r fun (a24 : Addr) => storeP none h a24 (Value.slice p21 l22 c23) fun (h25 : Heap) => R (Value.slice p14 l15 c16) h25))))
theorem C_wire_Reader_takes (r : Option Addr) (n : Int) {h : Heap} {R : Value → Heap → Prop} (H : F_wire_Reader_takes r n h R) : CallsH Try.prog n_wire_Reader_takes [(.pointer r), (.int .i64 n)].toArray h R :=
  fn_sound (A := A_wire_Reader_takes) (Eq.mp (by kernel_rfl : F_wire_Reader_takes r n h R = fnVc Go.Proofs.Try.prog A_wire_Reader_takes 71 [(.pointer r), (.int .i64 n)] h R) H)

/- (*rolodex/wire.Reader).Fails -/
def A_wire_Reader_Fails : Ann := { qs := [7, 15, 17, 20, 21, 22, 25, 32, 33, 34, 35, 36, 37, 40, 43, 44, 45, 46, 50, 51, 54, 56, 59, 60, 63, 66, 70] }
def F_wire_Reader_Fails (r : Option Addr) (h : Heap) (R : Value → Heap → Prop) : Prop :=
  br (Option.isNone r) (R (Value.bool true) h) (deref r fun (a0 : Addr) => ∃ (t1 : Bool), cell h (Addr.add a0 (1 : Nat)) = some (Value.bool t1) ∧ R (Value.bool t1) h)
theorem C_wire_Reader_Fails (r : Option Addr) {h : Heap} {R : Value → Heap → Prop} (H : F_wire_Reader_Fails r h R) : CallsH Try.prog n_wire_Reader_Fails [(.pointer r)].toArray h R :=
  fn_sound (A := A_wire_Reader_Fails) (Eq.mp (by kernel_rfl : F_wire_Reader_Fails r h R = fnVc Go.Proofs.Try.prog A_wire_Reader_Fails 54 [(.pointer r)] h R) H)

/- (*rolodex/wire.Reader).Left -/
def A_wire_Reader_Left : Ann := { qs := [7, 15, 17, 20, 21, 22, 25, 32, 33, 34, 35, 36, 37, 40, 43, 44, 45, 46, 50, 51, 54, 56, 59, 60, 63, 66, 70] }
def F_wire_Reader_Left (r : Option Addr) (h : Heap) (R : Value → Heap → Prop) : Prop :=
  br (Option.isNone r) (R (Value.int IntKind.i64 (0 : Int)) h)
  (deref r fun (a0 : Addr) => ∃ (p1 : Option Addr), ∃ (l2 : Nat), ∃ (c3 : Nat), cell h (Addr.add a0 (0 : Nat)) = some (Value.slice p1 l2 c3) ∧ R (Value.int IntKind.i64 (↑l2 : Int)) h)
theorem C_wire_Reader_Left (r : Option Addr) {h : Heap} {R : Value → Heap → Prop} (H : F_wire_Reader_Left r h R) : CallsH Try.prog n_wire_Reader_Left [(.pointer r)].toArray h R :=
  fn_sound (A := A_wire_Reader_Left) (Eq.mp (by kernel_rfl : F_wire_Reader_Left r h R = fnVc Go.Proofs.Try.prog A_wire_Reader_Left 59 [(.pointer r)] h R) H)

/- (*rolodex/wire.Reader).peek -/
def A_wire_Reader_peek : Ann := { qs := [7, 15, 17, 20, 21, 22, 25, 32, 33, 34, 35, 36, 37, 40, 43, 44, 45, 46, 50, 51, 54, 56, 59, 60, 63, 66, 70], loops := [(5, [(6, (.int .u64)), (33, (.int .i64))])] }
def F_wire_Reader_peek (r : Option Addr) (bytes : Int) (h : Heap) (R : Value → Heap → Prop) : Prop :=
  br (Option.isNone r) (R (Value.tuple #[Value.int IntKind.u64 (0 : Int), Value.bool false]) h)
  (deref r fun (a0 : Addr) =>
    ∃ (t1 : Bool),
      cell h (Addr.add a0 (1 : Nat)) = some (Value.bool t1) ∧
        br t1 (R (Value.tuple #[Value.int IntKind.u64 (0 : Int), Value.bool false]) h)
          (deref r fun (a2 : Addr) =>
            ∃ (p3 : Option Addr),
              ∃ (l4 : Nat),
                ∃ (c5 : Nat),
                  cell h (Addr.add a2 (0 : Nat)) = some (Value.slice p3 l4 c5) ∧
                    br (decide ((↑l4 : Int) < bytes)) (R (Value.tuple #[Value.int IntKind.u64 (0 : Int), Value.bool false]) h)
                      (deref r fun (a6 : Addr) =>
                        ∃ (p7 : Option Addr),
                          ∃ (l8 : Nat),
                            ∃ (c9 : Nat),
                              cell h (Addr.add a6 (0 : Nat)) = some (Value.slice p7 l8 c9) ∧
                                sliceP (1 : Nat) p7 (0 : Int) bytes (↑c9 : Int) c9 fun (p10 : Option Addr) (l11 c12 : Nat) =>
                                  ∃ (I13 : Int × Int → Heap → Prop),
                                    ∃ (μ14 : Int × Int → Heap → Nat),
                                      I13 ((0 : Int), (0 : Int)) h ∧
                                        ∀ (s15 : Int × Int) (h16 : Heap),
                                          I13 s15 h16 →
                                            br (decide (Prod.snd s15 < (↑l11 : Int)))
                                              ((0 : Int) ≤ Prod.snd s15 ∧
                                                Prod.snd s15 < (↑l11 : Int) ∧
                                                  deref p10 fun (a17 : Addr) =>
                                                    ∃ (n18 : Int),
                                                      cell h16 (Addr.add a17 (Int.toNat (Prod.snd s15) * (1 : Nat))) = some (Value.int IntKind.u8 n18) ∧
                                                        (0 : Int) ≤ (8 : Int) ∧
                                                          I13
                                                              (orI IntKind.u64 (shlI IntKind.u64 (Prod.fst s15) (8 : Int)) (IntKind.wrap IntKind.u64 n18),
                                                                IntKind.wrap IntKind.i64 (Prod.snd s15 + (1 : Int)))
                                                              h16 ∧
                                                            μ14
                                                                (orI IntKind.u64 (shlI IntKind.u64 (Prod.fst s15) (8 : Int)) (IntKind.wrap IntKind.u64 n18),
                                                                  IntKind.wrap IntKind.i64 (Prod.snd s15 + (1 : Int)))
                                                                h16 <
                                                              μ14 s15 h16)
                                              (R (Value.tuple #[Value.int IntKind.u64 (Prod.fst s15), Value.bool true]) h16))))
theorem C_wire_Reader_peek (r : Option Addr) (bytes : Int) {h : Heap} {R : Value → Heap → Prop} (H : F_wire_Reader_peek r bytes h R) : CallsH Try.prog n_wire_Reader_peek [(.pointer r), (.int .i64 bytes)].toArray h R :=
  fn_sound (A := A_wire_Reader_peek) (Eq.mp (by kernel_rfl : F_wire_Reader_peek r bytes h R = fnVc Go.Proofs.Try.prog A_wire_Reader_peek 56 [(.pointer r), (.int .i64 bytes)] h R) H)

/- (*rolodex/wire.Reader).spoil -/
def A_wire_Reader_spoil : Ann := { qs := [7, 15, 17, 20, 21, 22, 25, 32, 33, 34, 35, 36, 37, 40, 43, 44, 45, 46, 50, 51, 54, 56, 59, 60, 63, 66, 70] }
def F_wire_Reader_spoil (r : Option Addr) (h : Heap) (R : Value → Heap → Prop) : Prop :=
  br (!Option.isNone r) (deref r fun (a0 : Addr) => storeP none h (Addr.mk (Addr.block a0) (Addr.off a0 + (1 : Nat)) none) (Value.bool true) fun (h1 : Heap) => R (Value.tuple #[]) h1)
  (R (Value.tuple #[]) h)
theorem C_wire_Reader_spoil (r : Option Addr) {h : Heap} {R : Value → Heap → Prop} (H : F_wire_Reader_spoil r h R) : CallsH Try.prog n_wire_Reader_spoil [(.pointer r)].toArray h R :=
  fn_sound (A := A_wire_Reader_spoil) (Eq.mp (by kernel_rfl : F_wire_Reader_spoil r h R = fnVc Go.Proofs.Try.prog A_wire_Reader_spoil 57 [(.pointer r)] h R) H)

/- rolodex/device.New -/
def A_device_New : Ann := { qs := [7, 15, 17, 20, 21, 22, 25, 32, 33, 34, 35, 36, 37, 40, 43, 44, 45, 46, 50, 51, 54, 56, 59, 60, 63, 66, 70], plans := [(3, (.take 0 (.take 2 (.alt 1 (.alt 3 (.take 4 (.alt 5 (.take 6 (.take 7 .done)) .stop)) .stop) (.alt 3 (.alt 1 (.take 4 (.alt 5 (.take 6 (.take 7 .done)) .stop)) .stop) .stop)))))] }
def F_device_New (pages : Int) (h : Heap) (R : Value → Heap → Prop) : Prop :=
  br (decide (pages < (0 : Int))) (R (Value.tuple #[Value.pointer none, Value.int IntKind.i64 (1 : Int)]) h)
  (br (decide (pages > (4096 : Int))) (R (Value.tuple #[Value.pointer none, Value.int IntKind.i64 (1 : Int)]) h)
    ((makeP (73 : Nat) (128 : Nat) (128 : Nat) (List.toArray (List.replicate (128 : Nat) (Value.int IntKind.u8 (0 : Int)))) pages pages h fun (b0 : Nat) (h1 : Heap) =>
        makeP (73 : Nat) (128 : Nat) (128 : Nat) (List.toArray (List.replicate (128 : Nat) (Value.int IntKind.u8 (0 : Int)))) pages pages h1 fun (b2 : Nat) (h3 : Heap) =>
          newBlk h3 (53 : Nat)
            #[Value.slice (some (Addr.mk b0 (0 : Nat) none)) (Int.toNat pages) (Int.toNat pages), Value.slice (some (Addr.mk b2 (0 : Nat) none)) (Int.toNat pages) (Int.toNat pages),
              Value.slice none (0 : Nat) (0 : Nat), Value.int IntKind.i64 (-1 : Int), Value.bool false]
            fun (b4 : Nat) (h5 : Heap) => R (Value.tuple #[Value.pointer (some (Addr.mk b4 (0 : Nat) none)), Value.int IntKind.i64 (0 : Int)]) h5) ∧
      makeP (73 : Nat) (128 : Nat) (128 : Nat) (List.toArray (List.replicate (128 : Nat) (Value.int IntKind.u8 (0 : Int)))) pages pages h fun (b6 : Nat) (h7 : Heap) =>
        makeP (73 : Nat) (128 : Nat) (128 : Nat) (List.toArray (List.replicate (128 : Nat) (Value.int IntKind.u8 (0 : Int)))) pages pages h7 fun (b8 : Nat) (h9 : Heap) =>
          newBlk h9 (53 : Nat)
            #[Value.slice (some (Addr.mk b8 (0 : Nat) none)) (Int.toNat pages) (Int.toNat pages), Value.slice (some (Addr.mk b6 (0 : Nat) none)) (Int.toNat pages) (Int.toNat pages),
              Value.slice none (0 : Nat) (0 : Nat), Value.int IntKind.i64 (-1 : Int), Value.bool false]
            fun (b10 : Nat) (h11 : Heap) => R (Value.tuple #[Value.pointer (some (Addr.mk b10 (0 : Nat) none)), Value.int IntKind.i64 (0 : Int)]) h11))
theorem C_device_New (pages : Int) {h : Heap} {R : Value → Heap → Prop} (H : F_device_New pages h R) : CallsH Try.prog n_device_New [(.int .i64 pages)].toArray h R :=
  fn_sound (A := A_device_New) (Eq.mp (by kernel_rfl : F_device_New pages h R = fnVc Go.Proofs.Try.prog A_device_New 7 [(.int .i64 pages)] h R) H)

/- (*rolodex/device.Device).Read -/
def A_device_Device_Read : Ann := { qs := [7, 15, 17, 20, 21, 22, 25, 32, 33, 34, 35, 36, 37, 40, 43, 44, 45, 46, 50, 51, 54, 56, 59, 60, 63, 66, 70] }
def F_device_Device_Read (d : Option Addr) (i : Int) (h : Heap) (R : Value → Heap → Prop) : Prop :=
  CallsH Try.prog n_device_Device_reach #[Value.pointer d, Value.int IntKind.i64 i] h fun (v0 : Value) (h1 : Heap) =>
  Ext h h1 ∧
    ∃ (n2 : Int),
      v0 = Value.int IntKind.i64 n2 ∧
        br (n2 != (0 : Int)) (R (Value.tuple #[Value.slice none (0 : Nat) (0 : Nat), Value.int IntKind.i64 n2]) h1)
          (deref d fun (a3 : Addr) =>
            ∃ (p4 : Option Addr),
              ∃ (l5 : Nat),
                ∃ (c6 : Nat),
                  cell h1 (Addr.add a3 (1 : Nat)) = some (Value.slice p4 l5 c6) ∧
                    (0 : Int) ≤ i ∧
                      i < (↑l5 : Int) ∧
                        deref p4 fun (a7 : Addr) =>
                          sliceP (1 : Nat) (some (Addr.add a7 (Int.toNat i * (128 : Nat)))) (0 : Int) (↑(128 : Nat) : Int) (↑(128 : Nat) : Int) (128 : Nat) fun (p8 : Option Addr) (l9 c10 : Nat) =>
                            CallsH Try.prog n_slices_Clone_byte_byte #[Value.slice p8 l9 c10] h1 fun (v11 : Value) (h12 : Heap) =>
                              Ext h1 h12 ∧
                                ∃ (p13 : Option Addr), ∃ (l14 : Nat), ∃ (c15 : Nat), v11 = Value.slice p13 l14 c15 ∧ R (Value.tuple #[Value.slice p13 l14 c15, Value.int IntKind.i64 (0 : Int)]) h12)
theorem C_device_Device_Read (d : Option Addr) (i : Int) {h : Heap} {R : Value → Heap → Prop} (H : F_device_Device_Read d i h R) : CallsH Try.prog n_device_Device_Read [(.pointer d), (.int .i64 i)].toArray h R :=
  fn_sound (A := A_device_Device_Read) (Eq.mp (by kernel_rfl : F_device_Device_Read d i h R = fnVc Go.Proofs.Try.prog A_device_Device_Read 35 [(.pointer d), (.int .i64 i)] h R) H)

/- (*rolodex/device.Device).Write -/
def A_device_Device_Write : Ann := { qs := [7, 15, 17, 20, 21, 22, 25, 32, 33, 34, 35, 36, 37, 40, 43, 44, 45, 46, 50, 51, 54, 56, 59, 60, 63, 66, 70], plans := [(9, (.take 0 (.take 1 (.take 2 (.take 3 (.take 4 (.take 5 (.alt 6 (.alt 7 (.take 8 (.take 9 (.alt 10 .done .stop))) .stop) .stop)))))))), (10, (.take 0 (.take 1 (.take 2 (.take 3 (.take 4 (.take 5 (.take 6 (.take 7 (.alt 8 .done .stop))))))))))] }
def F_device_Device_Write (d : Option Addr) (i : Int) (b : Option Addr) (b_l : Nat) (b_c : Nat) (h : Heap) (R : Value → Heap → Prop) : Prop :=
  CallsH Try.prog n_device_Device_reach #[Value.pointer d, Value.int IntKind.i64 i] h fun (v0 : Value) (h1 : Heap) =>
  Ext h h1 ∧
    ∃ (n2 : Int),
      v0 = Value.int IntKind.i64 n2 ∧
        br (n2 != (0 : Int)) (R (Value.int IntKind.i64 n2) h1)
          (br ((↑b_l : Int) != (128 : Int)) (R (Value.int IntKind.i64 (1 : Int)) h1)
            (CallsH Try.prog n_device_Device_operates #[Value.pointer d] h1 fun (v3 : Value) (h4 : Heap) =>
              ∃ (t5 : Bool),
                v3 = Value.bool t5 ∧
                  br (!t5) (R (Value.int IntKind.i64 (6 : Int)) h4)
                    ((128 : Nat) ≤ b_l ∧
                      deref b fun (a6 : Addr) =>
                        ∃ (cs7 : Array Value),
                          row h4 a6 (128 : Nat) = some cs7 ∧
                            Array.size cs7 = (128 : Nat) ∧
                              newBlk h4 (75 : Nat) (List.toArray (Value.int IntKind.i64 (0 : Int) :: List.replicate (128 : Nat) (Value.int IntKind.u8 (0 : Int)))) fun (b8 : Nat) (h9 : Heap) =>
                                storeP (some (129 : Nat)) h9 (Addr.mk b8 (0 : Nat) none) (Value.agg (List.toArray (Value.int IntKind.i64 i :: (Array.toList cs7 ++ [])))) fun (h10 : Heap) =>
                                  deref d fun (a11 : Addr) =>
                                    ∃ (p12 : Option Addr),
                                      ∃ (l13 : Nat),
                                        ∃ (c14 : Nat),
                                          cell h10 (Addr.add a11 (2 : Nat)) = some (Value.slice p12 l13 c14) ∧
                                            ∃ (cs15 : Array Value),
                                              row h10 (Addr.mk b8 (0 : Nat) none) (129 : Nat) = some cs15 ∧
                                                Array.size cs15 = (129 : Nat) ∧
                                                  newBlk h10 (75 : Nat) (List.toArray (Array.toList cs15 ++ [])) fun (b16 : Nat) (h17 : Heap) =>
                                                    appendP (75 : Nat) (129 : Nat) (136 : Nat)
                                                      (List.toArray (Value.int IntKind.i64 (0 : Int) :: List.replicate (128 : Nat) (Value.int IntKind.u8 (0 : Int)))) p12 l13 c14
                                                      (some (Addr.mk b16 (0 : Nat) none)) (1 : Nat) h17 fun (p18 : Option Addr) (l19 c20 : Nat) (h21 : Heap) =>
                                                      deref d fun (a22 : Addr) =>
                                                        storeP none h21 (Addr.mk (Addr.block a22) (Addr.off a22 + (2 : Nat)) none) (Value.slice p18 l19 c20) fun (h23 : Heap) =>
                                                          deref d fun (a24 : Addr) =>
                                                            ∃ (p25 : Option Addr),
                                                              ∃ (l26 : Nat),
                                                                ∃ (c27 : Nat),
                                                                  cell h23 (Addr.add a24 (1 : Nat)) = some (Value.slice p25 l26 c27) ∧
                                                                    ∃ (cs28 : Array Value),
                                                                      row h23 (Addr.add (Addr.mk b8 (0 : Nat) none) (1 : Nat)) (128 : Nat) = some cs28 ∧
                                                                        (0 : Int) ≤ i ∧
                                                                          i < (↑l26 : Int) ∧
                                                                            deref p25 fun (a29 : Addr) =>
                                                                              storeP (some (128 : Nat)) h23 (Addr.add a29 (Int.toNat i * (128 : Nat))) (Value.agg cs28) fun (h30 : Heap) =>
                                                                                R (Value.int IntKind.i64 (0 : Int)) h30)))
theorem C_device_Device_Write (d : Option Addr) (i : Int) (b : Option Addr) (b_l : Nat) (b_c : Nat) {h : Heap} {R : Value → Heap → Prop} (H : F_device_Device_Write d i b b_l b_c h R) : CallsH Try.prog n_device_Device_Write [(.pointer d), (.int .i64 i), (.slice b b_l b_c)].toArray h R :=
  fn_sound (A := A_device_Device_Write) (Eq.mp (by kernel_rfl : F_device_Device_Write d i b b_l b_c h R = fnVc Go.Proofs.Try.prog A_device_Device_Write 47 [(.pointer d), (.int .i64 i), (.slice b b_l b_c)] h R) H)

/- (*rolodex/device.Device).SetFuse -/
def A_device_Device_SetFuse : Ann := { qs := [7, 15, 17, 20, 21, 22, 25, 32, 33, 34, 35, 36, 37, 40, 43, 44, 45, 46, 50, 51, 54, 56, 59, 60, 63, 66, 70] }
def F_device_Device_SetFuse (d : Option Addr) (n : Int) (h : Heap) (R : Value → Heap → Prop) : Prop :=
  br (!Option.isNone d)
  (deref d fun (a0 : Addr) => storeP none h (Addr.mk (Addr.block a0) (Addr.off a0 + (3 : Nat)) none) (Value.int IntKind.i64 (maxI n (-1 : Int))) fun (h1 : Heap) => R (Value.tuple #[]) h1)
  (R (Value.tuple #[]) h)
theorem C_device_Device_SetFuse (d : Option Addr) (n : Int) {h : Heap} {R : Value → Heap → Prop} (H : F_device_Device_SetFuse d n h R) : CallsH Try.prog n_device_Device_SetFuse [(.pointer d), (.int .i64 n)].toArray h R :=
  fn_sound (A := A_device_Device_SetFuse) (Eq.mp (by kernel_rfl : F_device_Device_SetFuse d n h R = fnVc Go.Proofs.Try.prog A_device_Device_SetFuse 19 [(.pointer d), (.int .i64 n)] h R) H)

/- (*rolodex/device.Device).Restart -/
def A_device_Device_Restart : Ann := { qs := [7, 15, 17, 20, 21, 22, 25, 32, 33, 34, 35, 36, 37, 40, 43, 44, 45, 46, 50, 51, 54, 56, 59, 60, 63, 66, 70], loops := [(2, [(14, (.int .i64))])], plans := [(7, (.take 0 (.take 1 (.take 2 (.take 3 (.take 4 (.take 5 (.take 6 (.take 7 (.take 8 (.take 9 (.take 10 (.take 11 (.alt 12 .done .stop)))))))))))))), (9, (.take 0 (.take 1 (.take 2 (.take 3 (.take 4 (.take 5 (.take 6 (.take 7 (.alt 8 .done .stop))))))))))] }
def F_device_Device_Restart (d : Option Addr) (list : Option Addr) (list_l : Nat) (list_c : Nat) (h : Heap) (R : Value → Heap → Prop) : Prop :=
  br (Option.isNone d) (R (Value.tuple #[]) h)
  (deref d fun (a0 : Addr) =>
    ∃ (p1 : Option Addr),
      ∃ (l2 : Nat),
        ∃ (c3 : Nat),
          cell h (Addr.add a0 (2 : Nat)) = some (Value.slice p1 l2 c3) ∧
            ∃ (I4 : Int → Heap → Prop),
              ∃ (μ5 : Int → Heap → Nat),
                I4 (0 : Int) h ∧
                  ∀ (n6 : Int) (h7 : Heap),
                    I4 n6 h7 →
                      br (decide (n6 < (↑l2 : Int)))
                        ((0 : Int) ≤ n6 ∧
                          n6 < (↑l2 : Int) ∧
                            deref p1 fun (a8 : Addr) =>
                              ∃ (cs9 : Array Value),
                                row h7 (Addr.add a8 (Int.toNat n6 * (129 : Nat))) (129 : Nat) = some cs9 ∧
                                  newBlk h7 (75 : Nat) (List.toArray (Value.int IntKind.i64 (0 : Int) :: List.replicate (128 : Nat) (Value.int IntKind.u8 (0 : Int)))) fun (b10 : Nat) (h11 : Heap) =>
                                    storeP (some (129 : Nat)) h11 (Addr.mk b10 (0 : Nat) none) (Value.agg cs9) fun (h12 : Heap) =>
                                      br (decide (n6 < (↑list_l : Int)))
                                        ((0 : Int) ≤ n6 ∧
                                          n6 < (↑list_l : Int) ∧
                                            deref list fun (a13 : Addr) =>
                                              ∃ (n14 : Int),
                                                cell h12 (Addr.add a13 (Int.toNat n6 * (1 : Nat))) = some (Value.int IntKind.i64 n14) ∧
                                                  deref d fun (a15 : Addr) =>
                                                    ∃ (p16 : Option Addr),
                                                      ∃ (l17 : Nat),
                                                        ∃ (c18 : Nat),
                                                          cell h12 (Addr.add a15 (0 : Nat)) = some (Value.slice p16 l17 c18) ∧
                                                            ∃ (n19 : Int),
                                                              cell h12 (Addr.add (Addr.mk b10 (0 : Nat) none) (0 : Nat)) = some (Value.int IntKind.i64 n19) ∧
                                                                (0 : Int) ≤ n19 ∧
                                                                  n19 < (↑l17 : Int) ∧
                                                                    deref p16 fun (a20 : Addr) =>
                                                                      sliceP (1 : Nat) (some (Addr.add a20 (Int.toNat n19 * (128 : Nat)))) (0 : Int) (minI (maxI n14 (0 : Int)) (128 : Int))
                                                                        (↑(128 : Nat) : Int) (128 : Nat) fun (p21 : Option Addr) (l22 c23 : Nat) =>
                                                                        sliceP (1 : Nat)
                                                                          (some (Addr.mk (Addr.block (Addr.mk b10 (0 : Nat) none)) (Addr.off (Addr.mk b10 (0 : Nat) none) + (1 : Nat)) none)) (0 : Int)
                                                                          (minI (maxI n14 (0 : Int)) (128 : Int)) (↑(128 : Nat) : Int) (128 : Nat) fun (p24 : Option Addr) (l25 c26 : Nat) =>
                                                                          copyP (1 : Nat) p21 l22 p24 l25 h12 fun (n27 : Int) (h28 : Heap) =>
                                                                            I4 (IntKind.wrap IntKind.i64 (n6 + (1 : Int))) h28 ∧ μ5 (IntKind.wrap IntKind.i64 (n6 + (1 : Int))) h28 < μ5 n6 h7)
                                        (deref d fun (a29 : Addr) =>
                                          ∃ (p30 : Option Addr),
                                            ∃ (l31 : Nat),
                                              ∃ (c32 : Nat),
                                                cell h12 (Addr.add a29 (0 : Nat)) = some (Value.slice p30 l31 c32) ∧
                                                  ∃ (n33 : Int),
                                                    cell h12 (Addr.add (Addr.mk b10 (0 : Nat) none) (0 : Nat)) = some (Value.int IntKind.i64 n33) ∧
                                                      (0 : Int) ≤ n33 ∧
                                                        n33 < (↑l31 : Int) ∧
                                                          deref p30 fun (a34 : Addr) =>
                                                            sliceP (1 : Nat) (some (Addr.add a34 (Int.toNat n33 * (128 : Nat)))) (0 : Int) (0 : Int) (↑(128 : Nat) : Int) (128 : Nat)
                                                              fun (p35 : Option Addr) (l36 c37 : Nat) =>
                                                              sliceP (1 : Nat) (some (Addr.mk (Addr.block (Addr.mk b10 (0 : Nat) none)) (Addr.off (Addr.mk b10 (0 : Nat) none) + (1 : Nat)) none))
                                                                (0 : Int) (0 : Int) (↑(128 : Nat) : Int) (128 : Nat) fun (p38 : Option Addr) (l39 c40 : Nat) =>
                                                                copyP (1 : Nat) p35 l36 p38 l39 h12 fun (n41 : Int) (h42 : Heap) =>
                                                                  I4 (IntKind.wrap IntKind.i64 (n6 + (1 : Int))) h42 ∧ μ5 (IntKind.wrap IntKind.i64 (n6 + (1 : Int))) h42 < μ5 n6 h7))
                        (deref d fun (a43 : Addr) =>
                          ∃ (p44 : Option Addr),
                            ∃ (l45 : Nat),
                              ∃ (c46 : Nat),
                                cell h7 (Addr.add a43 (1 : Nat)) = some (Value.slice p44 l45 c46) ∧
                                  deref d fun (a47 : Addr) =>
                                    ∃ (p48 : Option Addr),
                                      ∃ (l49 : Nat),
                                        ∃ (c50 : Nat),
                                          cell h7 (Addr.add a47 (0 : Nat)) = some (Value.slice p48 l49 c50) ∧
                                            copyP (128 : Nat) p44 l45 p48 l49 h7 fun (n51 : Int) (h52 : Heap) =>
                                              deref d fun (a53 : Addr) =>
                                                storeP none h52 (Addr.mk (Addr.block a53) (Addr.off a53 + (2 : Nat)) none) (Value.slice none (0 : Nat) (0 : Nat)) fun (h54 : Heap) =>
                                                  deref d fun (a55 : Addr) =>
                                                    storeP none h54 (Addr.mk (Addr.block a55) (Addr.off a55 + (3 : Nat)) none) (Value.int IntKind.i64 (-1 : Int)) fun (h56 : Heap) =>
                                                      deref d fun (a57 : Addr) =>
                                                        storeP none h56 (Addr.mk (Addr.block a57) (Addr.off a57 + (4 : Nat)) none) (Value.bool false) fun (h58 : Heap) => R (Value.tuple #[]) h58))
theorem C_device_Device_Restart (d : Option Addr) (list : Option Addr) (list_l : Nat) (list_c : Nat) {h : Heap} {R : Value → Heap → Prop} (H : F_device_Device_Restart d list list_l list_c h R) : CallsH Try.prog n_device_Device_Restart [(.pointer d), (.slice list list_l list_c)].toArray h R :=
  fn_sound (A := A_device_Device_Restart) (Eq.mp (by kernel_rfl : F_device_Device_Restart d list list_l list_c h R = fnVc Go.Proofs.Try.prog A_device_Device_Restart 16 [(.pointer d), (.slice list list_l list_c)] h R) H)

/- (*rolodex/device.Device).Flush -/
def A_device_Device_Flush : Ann := { qs := [7, 15, 17, 20, 21, 22, 25, 32, 33, 34, 35, 36, 37, 40, 43, 44, 45, 46, 50, 51, 54, 56, 59, 60, 63, 66, 70], loops := [(4, [(17, (.int .i64))])], plans := [(6, (.take 0 (.take 1 (.take 2 (.take 3 (.take 4 (.take 5 (.take 6 (.take 7 (.take 8 (.alt 9 .done .stop)))))))))))] }
def F_device_Device_Flush (d : Option Addr) (h : Heap) (R : Value → Heap → Prop) : Prop :=
  CallsH Try.prog n_device_Device_Down #[Value.pointer d] h fun (v0 : Value) (h1 : Heap) =>
  Ext h h1 ∧
    ∃ (t2 : Bool),
      v0 = Value.bool t2 ∧
        br t2 (R (Value.int IntKind.i64 (6 : Int)) h1)
          (CallsH Try.prog n_device_Device_operates #[Value.pointer d] h1 fun (v3 : Value) (h4 : Heap) =>
            ∃ (t5 : Bool),
              v3 = Value.bool t5 ∧
                br (!t5) (R (Value.int IntKind.i64 (6 : Int)) h4)
                  (deref d fun (a6 : Addr) =>
                    ∃ (p7 : Option Addr),
                      ∃ (l8 : Nat),
                        ∃ (c9 : Nat),
                          cell h4 (Addr.add a6 (2 : Nat)) = some (Value.slice p7 l8 c9) ∧
                            ∃ (I10 : Int → Heap → Prop),
                              ∃ (μ11 : Int → Heap → Nat),
                                I10 (0 : Int) h4 ∧
                                  ∀ (n12 : Int) (h13 : Heap),
                                    I10 n12 h13 →
                                      br (decide (n12 < (↑l8 : Int)))
                                        ((0 : Int) ≤ n12 ∧
                                          n12 < (↑l8 : Int) ∧
                                            deref p7 fun (a14 : Addr) =>
                                              ∃ (cs15 : Array Value),
                                                row h13 (Addr.add a14 (Int.toNat n12 * (129 : Nat))) (129 : Nat) = some cs15 ∧
                                                  newBlk h13 (75 : Nat) (List.toArray (Value.int IntKind.i64 (0 : Int) :: List.replicate (128 : Nat) (Value.int IntKind.u8 (0 : Int))))
                                                    fun (b16 : Nat) (h17 : Heap) =>
                                                    storeP (some (129 : Nat)) h17 (Addr.mk b16 (0 : Nat) none) (Value.agg cs15) fun (h18 : Heap) =>
                                                      deref d fun (a19 : Addr) =>
                                                        ∃ (p20 : Option Addr),
                                                          ∃ (l21 : Nat),
                                                            ∃ (c22 : Nat),
                                                              cell h18 (Addr.add a19 (0 : Nat)) = some (Value.slice p20 l21 c22) ∧
                                                                ∃ (n23 : Int),
                                                                  cell h18 (Addr.add (Addr.mk b16 (0 : Nat) none) (0 : Nat)) = some (Value.int IntKind.i64 n23) ∧
                                                                    ∃ (cs24 : Array Value),
                                                                      row h18 (Addr.add (Addr.mk b16 (0 : Nat) none) (1 : Nat)) (128 : Nat) = some cs24 ∧
                                                                        (0 : Int) ≤ n23 ∧
                                                                          n23 < (↑l21 : Int) ∧
                                                                            deref p20 fun (a25 : Addr) =>
                                                                              storeP (some (128 : Nat)) h18 (Addr.add a25 (Int.toNat n23 * (128 : Nat))) (Value.agg cs24) fun (h26 : Heap) =>
                                                                                I10 (IntKind.wrap IntKind.i64 (n12 + (1 : Int))) h26 ∧
                                                                                  μ11 (IntKind.wrap IntKind.i64 (n12 + (1 : Int))) h26 < μ11 n12 h13)
                                        (deref d fun (a27 : Addr) =>
                                          storeP none h13 (Addr.mk (Addr.block a27) (Addr.off a27 + (2 : Nat)) none) (Value.slice none (0 : Nat) (0 : Nat)) fun (h28 : Heap) =>
                                            R (Value.int IntKind.i64 (0 : Int)) h28)))
theorem C_device_Device_Flush (d : Option Addr) {h : Heap} {R : Value → Heap → Prop} (H : F_device_Device_Flush d h R) : CallsH Try.prog n_device_Device_Flush [(.pointer d)].toArray h R :=
  fn_sound (A := A_device_Device_Flush) (Eq.mp (by kernel_rfl : F_device_Device_Flush d h R = fnVc Go.Proofs.Try.prog A_device_Device_Flush 49 [(.pointer d)] h R) H)

/- (*rolodex/device.Device).Down -/
def A_device_Device_Down : Ann := { qs := [7, 15, 17, 20, 21, 22, 25, 32, 33, 34, 35, 36, 37, 40, 43, 44, 45, 46, 50, 51, 54, 56, 59, 60, 63, 66, 70] }
def F_device_Device_Down (d : Option Addr) (h : Heap) (R : Value → Heap → Prop) : Prop :=
  br (Option.isNone d) (R (Value.bool true) h) (deref d fun (a0 : Addr) => ∃ (t1 : Bool), cell h (Addr.add a0 (4 : Nat)) = some (Value.bool t1) ∧ R (Value.bool t1) h)
theorem C_device_Device_Down (d : Option Addr) {h : Heap} {R : Value → Heap → Prop} (H : F_device_Device_Down d h R) : CallsH Try.prog n_device_Device_Down [(.pointer d)].toArray h R :=
  fn_sound (A := A_device_Device_Down) (Eq.mp (by kernel_rfl : F_device_Device_Down d h R = fnVc Go.Proofs.Try.prog A_device_Device_Down 70 [(.pointer d)] h R) H)

/- (*rolodex/device.Device).reach -/
def A_device_Device_reach : Ann := { qs := [7, 15, 17, 20, 21, 22, 25, 32, 33, 34, 35, 36, 37, 40, 43, 44, 45, 46, 50, 51, 54, 56, 59, 60, 63, 66, 70] }
def F_device_Device_reach (d : Option Addr) (i : Int) (h : Heap) (R : Value → Heap → Prop) : Prop :=
  CallsH Try.prog n_device_Device_Down #[Value.pointer d] h fun (v0 : Value) (h1 : Heap) =>
  Ext h h1 ∧
    ∃ (t2 : Bool),
      v0 = Value.bool t2 ∧
        br t2 (R (Value.int IntKind.i64 (6 : Int)) h1)
          (br (decide (i < (0 : Int))) (R (Value.int IntKind.i64 (4 : Int)) h1)
            (deref d fun (a3 : Addr) =>
              ∃ (p4 : Option Addr),
                ∃ (l5 : Nat),
                  ∃ (c6 : Nat),
                    cell h1 (Addr.add a3 (0 : Nat)) = some (Value.slice p4 l5 c6) ∧ br (decide (i ≥ (↑l5 : Int))) (R (Value.int IntKind.i64 (4 : Int)) h1) (R (Value.int IntKind.i64 (0 : Int)) h1)))
theorem C_device_Device_reach (d : Option Addr) (i : Int) {h : Heap} {R : Value → Heap → Prop} (H : F_device_Device_reach d i h R) : CallsH Try.prog n_device_Device_reach [(.pointer d), (.int .i64 i)].toArray h R :=
  fn_sound (A := A_device_Device_reach) (Eq.mp (by kernel_rfl : F_device_Device_reach d i h R = fnVc Go.Proofs.Try.prog A_device_Device_reach 50 [(.pointer d), (.int .i64 i)] h R) H)

/- (*rolodex/device.Device).operates -/
def A_device_Device_operates : Ann := { qs := [7, 15, 17, 20, 21, 22, 25, 32, 33, 34, 35, 36, 37, 40, 43, 44, 45, 46, 50, 51, 54, 56, 59, 60, 63, 66, 70] }
def F_device_Device_operates (d : Option Addr) (h : Heap) (R : Value → Heap → Prop) : Prop :=
  deref d fun (a0 : Addr) =>
  ∃ (n1 : Int),
    cell h (Addr.add a0 (3 : Nat)) = some (Value.int IntKind.i64 n1) ∧
      br (n1 == (0 : Int))
        (deref d fun (a2 : Addr) =>
          storeP none h (Addr.mk (Addr.block a2) (Addr.off a2 + (4 : Nat)) none) (Value.bool true) fun (h3 : Heap) =>
            deref d fun (a4 : Addr) => ∃ (t5 : Bool), cell h3 (Addr.add a4 (4 : Nat)) = some (Value.bool t5) ∧ R (Value.bool !t5) h3)
        (deref d fun (a6 : Addr) =>
          ∃ (n7 : Int),
            cell h (Addr.add a6 (3 : Nat)) = some (Value.int IntKind.i64 n7) ∧
              br (decide (n7 > (0 : Int)))
                (deref d fun (a8 : Addr) =>
                  ∃ (n9 : Int),
                    cell h (Addr.add a8 (3 : Nat)) = some (Value.int IntKind.i64 n9) ∧
                      deref d fun (a10 : Addr) =>
                        storeP none h (Addr.mk (Addr.block a10) (Addr.off a10 + (3 : Nat)) none) (Value.int IntKind.i64 (IntKind.wrap IntKind.i64 (n9 - (1 : Int)))) fun (h11 : Heap) =>
                          deref d fun (a12 : Addr) => ∃ (t13 : Bool), cell h11 (Addr.add a12 (4 : Nat)) = some (Value.bool t13) ∧ R (Value.bool !t13) h11)
                (deref d fun (a14 : Addr) => ∃ (t15 : Bool), cell h (Addr.add a14 (4 : Nat)) = some (Value.bool t15) ∧ R (Value.bool !t15) h))
theorem C_device_Device_operates (d : Option Addr) {h : Heap} {R : Value → Heap → Prop} (H : F_device_Device_operates d h R) : CallsH Try.prog n_device_Device_operates [(.pointer d)].toArray h R :=
  fn_sound (A := A_device_Device_operates) (Eq.mp (by kernel_rfl : F_device_Device_operates d h R = fnVc Go.Proofs.Try.prog A_device_Device_operates 69 [(.pointer d)] h R) H)

/- (*rolodex/device.Device).Pages -/
def A_device_Device_Pages : Ann := { qs := [7, 15, 17, 20, 21, 22, 25, 32, 33, 34, 35, 36, 37, 40, 43, 44, 45, 46, 50, 51, 54, 56, 59, 60, 63, 66, 70] }
def F_device_Device_Pages (d : Option Addr) (h : Heap) (R : Value → Heap → Prop) : Prop :=
  br (Option.isNone d) (R (Value.int IntKind.i64 (0 : Int)) h)
  (deref d fun (a0 : Addr) => ∃ (p1 : Option Addr), ∃ (l2 : Nat), ∃ (c3 : Nat), cell h (Addr.add a0 (0 : Nat)) = some (Value.slice p1 l2 c3) ∧ R (Value.int IntKind.i64 (↑l2 : Int)) h)
theorem C_device_Device_Pages (d : Option Addr) {h : Heap} {R : Value → Heap → Prop} (H : F_device_Device_Pages d h R) : CallsH Try.prog n_device_Device_Pages [(.pointer d)].toArray h R :=
  fn_sound (A := A_device_Device_Pages) (Eq.mp (by kernel_rfl : F_device_Device_Pages d h R = fnVc Go.Proofs.Try.prog A_device_Device_Pages 21 [(.pointer d)] h R) H)

/- rolodex/slot.encode -/
def A_slot_encode : Ann := { qs := [7, 15, 17, 20, 21, 22, 25, 32, 33, 34, 35, 36, 37, 40, 43, 44, 45, 46, 50, 51, 54, 56, 59, 60, 63, 66, 70] }
def F_slot_encode (serial : Int) (value : Option Addr) (value_l : Nat) (value_c : Nat) (h : Heap) (R : Value → Heap → Prop) : Prop :=
  newBlk h (108 : Nat) #[Value.slice none (0 : Nat) (0 : Nat), Value.bool false] fun (b0 : Nat) (h1 : Heap) =>
  CallsH Try.prog n_wire_Writer_U64 #[Value.pointer (some (Addr.mk b0 (0 : Nat) none)), Value.int IntKind.u64 serial] h1 fun (v2 : Value) (h3 : Heap) =>
    v2 = Value.tuple #[] ∧
      CallsH Try.prog n_wire_Writer_String #[Value.pointer (some (Addr.mk b0 (0 : Nat) none)), Value.slice value value_l value_c] h3 fun (v4 : Value) (h5 : Heap) =>
        v4 = Value.tuple #[] ∧
          makeP (5 : Nat) (1 : Nat) (1 : Nat) #[Value.int IntKind.u8 (0 : Int)] (IntKind.wrap IntKind.i64 ((110 : Int) - (↑value_l : Int))) (IntKind.wrap IntKind.i64 ((110 : Int) - (↑value_l : Int)))
            h5 fun (b6 : Nat) (h7 : Heap) =>
            CallsH Try.prog n_wire_Writer_Plain
              #[Value.pointer (some (Addr.mk b0 (0 : Nat) none)),
                Value.slice (some (Addr.mk b6 (0 : Nat) none)) (Int.toNat (IntKind.wrap IntKind.i64 ((110 : Int) - (↑value_l : Int))))
                  (Int.toNat (IntKind.wrap IntKind.i64 ((110 : Int) - (↑value_l : Int))))]
              h7 fun (v8 : Value) (h9 : Heap) =>
              v8 = Value.tuple #[] ∧
                CallsH Try.prog n_wire_Writer_U64 #[Value.pointer (some (Addr.mk b0 (0 : Nat) none)), Value.int IntKind.u64 serial] h9 fun (v10 : Value) (h11 : Heap) =>
                  v10 = Value.tuple #[] ∧
                    CallsH Try.prog n_wire_Writer_Out #[Value.pointer (some (Addr.mk b0 (0 : Nat) none))] h11 fun (v12 : Value) (h13 : Heap) =>
                      Ext h11 h13 ∧
                        ∃ (p14 : Option Addr),
                          ∃ (l15 : Nat),
                            ∃ (c16 : Nat),
                              ∃ (n17 : Int), v12 = Value.tuple #[Value.slice p14 l15 c16, Value.int IntKind.i64 n17] ∧ R (Value.tuple #[Value.slice p14 l15 c16, Value.int IntKind.i64 n17]) h13
theorem C_slot_encode (serial : Int) (value : Option Addr) (value_l : Nat) (value_c : Nat) {h : Heap} {R : Value → Heap → Prop} (H : F_slot_encode serial value value_l value_c h R) : CallsH Try.prog n_slot_encode [(.int .u64 serial), (.slice value value_l value_c)].toArray h R :=
  fn_sound (A := A_slot_encode) (Eq.mp (by kernel_rfl : F_slot_encode serial value value_l value_c h R = fnVc Go.Proofs.Try.prog A_slot_encode 60 [(.int .u64 serial), (.slice value value_l value_c)] h R) H)

/- rolodex/slot.decode -/
def A_slot_decode : Ann := { qs := [7, 15, 17, 20, 21, 22, 25, 32, 33, 34, 35, 36, 37, 40, 43, 44, 45, 46, 50, 51, 54, 56, 59, 60, 63, 66, 70] }
def F_slot_decode (b : Option Addr) (b_l : Nat) (b_c : Nat) (h : Heap) (R : Value → Heap → Prop) : Prop :=
  CallsH Try.prog n_wire_New #[Value.slice b b_l b_c] h fun (v0 : Value) (h1 : Heap) =>
  Ext h h1 ∧
    ∃ (p2 : Option Addr),
      v0 = Value.pointer p2 ∧
        CallsH Try.prog n_wire_Reader_U64 #[Value.pointer p2] h1 fun (v3 : Value) (h4 : Heap) =>
          ∃ (n5 : Int),
            v3 = Value.int IntKind.u64 n5 ∧
              CallsH Try.prog n_wire_Reader_String #[Value.pointer p2, Value.int IntKind.i64 (110 : Int)] h4 fun (v6 : Value) (h7 : Heap) =>
                ∃ (p8 : Option Addr),
                  ∃ (l9 : Nat),
                    ∃ (c10 : Nat),
                      v6 = Value.slice p8 l9 c10 ∧
                        CallsH Try.prog n_wire_Reader_Fails #[Value.pointer p2] h7 fun (v11 : Value) (h12 : Heap) =>
                          Ext h7 h12 ∧
                            ∃ (t13 : Bool),
                              v11 = Value.bool t13 ∧
                                br t13 (R (Value.tuple #[Value.int IntKind.u64 (0 : Int), Value.slice none (0 : Nat) (0 : Nat), Value.bool false]) h12)
                                  (CallsH Try.prog n_wire_Reader_Plain #[Value.pointer p2, Value.int IntKind.i64 (IntKind.wrap IntKind.i64 ((110 : Int) - (↑l9 : Int)))] h12 fun (v14 : Value) (h15 : Heap) =>
                                    ∃ (p16 : Option Addr),
                                      ∃ (l17 : Nat),
                                        ∃ (c18 : Nat),
                                          v14 = Value.slice p16 l17 c18 ∧
                                            CallsH Try.prog n_wire_Reader_U64 #[Value.pointer p2] h15 fun (v19 : Value) (h20 : Heap) =>
                                              ∃ (n21 : Int),
                                                v19 = Value.int IntKind.u64 n21 ∧
                                                  br (n21 == n5)
                                                    (br (n5 != (0 : Int))
                                                      (CallsH Try.prog n_wire_Reader_Done #[Value.pointer p2] h20 fun (v22 : Value) (h23 : Heap) =>
                                                        Ext h20 h23 ∧ ∃ (t24 : Bool), v22 = Value.bool t24 ∧ R (Value.tuple #[Value.int IntKind.u64 n5, Value.slice p8 l9 c10, Value.bool t24]) h23)
                                                      (R (Value.tuple #[Value.int IntKind.u64 n5, Value.slice p8 l9 c10, Value.bool false]) h20))
                                                    (R (Value.tuple #[Value.int IntKind.u64 n5, Value.slice p8 l9 c10, Value.bool false]) h20))
theorem C_slot_decode (b : Option Addr) (b_l : Nat) (b_c : Nat) {h : Heap} {R : Value → Heap → Prop} (H : F_slot_decode b b_l b_c h R) : CallsH Try.prog n_slot_decode [(.slice b b_l b_c)].toArray h R :=
  fn_sound (A := A_slot_decode) (Eq.mp (by kernel_rfl : F_slot_decode b b_l b_c h R = fnVc Go.Proofs.Try.prog A_slot_decode 36 [(.slice b b_l b_c)] h R) H)

/- rolodex/slot.Load -/
def A_slot_Load : Ann := { qs := [7, 15, 17, 20, 21, 22, 25, 32, 33, 34, 35, 36, 37, 40, 43, 44, 45, 46, 50, 51, 54, 56, 59, 60, 63, 66, 70], loops := [(6, [(7, (.int .u64)), (8, .slice), (17, (.int .i64))])] }
def F_slot_Load (d : Option Addr) (at_ : Int) (h : Heap) (R : Value → Heap → Prop) : Prop :=
  br (Option.isNone d) (R (Value.tuple #[Value.int IntKind.u64 (0 : Int), Value.slice none (0 : Nat) (0 : Nat), Value.int IntKind.i64 (1 : Int)]) h)
  (∃ (I0 : Int × (Option Addr × Nat × Nat) × Int → Heap → Prop),
    ∃ (μ1 : Int × (Option Addr × Nat × Nat) × Int → Heap → Nat),
      I0 ((0 : Int), (none, (0 : Nat), (0 : Nat)), (0 : Int)) h ∧
        ∀ (s2 : Int × (Option Addr × Nat × Nat) × Int) (h3 : Heap),
          I0 s2 h3 →
            br (decide (Prod.snd (Prod.snd s2) < (2 : Int)))
              (CallsH Try.prog n_device_Device_Read #[Value.pointer d, Value.int IntKind.i64 (IntKind.wrap IntKind.i64 (at_ + Prod.snd (Prod.snd s2)))] h3 fun (v4 : Value) (h5 : Heap) =>
                Ext h3 h5 ∧
                  ∃ (p6 : Option Addr),
                    ∃ (l7 : Nat),
                      ∃ (c8 : Nat),
                        ∃ (n9 : Int),
                          v4 = Value.tuple #[Value.slice p6 l7 c8, Value.int IntKind.i64 n9] ∧
                            br (n9 != (0 : Int)) (R (Value.tuple #[Value.int IntKind.u64 (0 : Int), Value.slice none (0 : Nat) (0 : Nat), Value.int IntKind.i64 n9]) h5)
                              (CallsH Try.prog n_slot_decode #[Value.slice p6 l7 c8] h5 fun (v10 : Value) (h11 : Heap) =>
                                Ext h5 h11 ∧
                                  ∃ (n12 : Int),
                                    ∃ (p13 : Option Addr),
                                      ∃ (l14 : Nat),
                                        ∃ (c15 : Nat),
                                          ∃ (t16 : Bool),
                                            v10 = Value.tuple #[Value.int IntKind.u64 n12, Value.slice p13 l14 c15, Value.bool t16] ∧
                                              br t16
                                                ((2 : Int) ≠ (0 : Int) ∧
                                                  br (Int.tmod n12 (2 : Int) == IntKind.wrap IntKind.u64 (Prod.snd (Prod.snd s2)))
                                                    (br (decide (n12 > Prod.fst s2))
                                                      (I0 (n12, (p13, l14, c15), IntKind.wrap IntKind.i64 (Prod.snd (Prod.snd s2) + (1 : Int))) h11 ∧
                                                        μ1 (n12, (p13, l14, c15), IntKind.wrap IntKind.i64 (Prod.snd (Prod.snd s2) + (1 : Int))) h11 < μ1 s2 h3)
                                                      (I0
                                                          (Prod.fst s2, (Prod.fst (Prod.fst (Prod.snd s2)), Prod.fst (Prod.snd (Prod.fst (Prod.snd s2))), Prod.snd (Prod.snd (Prod.fst (Prod.snd s2)))),
                                                            IntKind.wrap IntKind.i64 (Prod.snd (Prod.snd s2) + (1 : Int)))
                                                          h11 ∧
                                                        μ1
                                                            (Prod.fst s2,
                                                              (Prod.fst (Prod.fst (Prod.snd s2)), Prod.fst (Prod.snd (Prod.fst (Prod.snd s2))), Prod.snd (Prod.snd (Prod.fst (Prod.snd s2)))),
                                                              IntKind.wrap IntKind.i64 (Prod.snd (Prod.snd s2) + (1 : Int)))
                                                            h11 <
                                                          μ1 s2 h3))
                                                    (I0
                                                        (Prod.fst s2, (Prod.fst (Prod.fst (Prod.snd s2)), Prod.fst (Prod.snd (Prod.fst (Prod.snd s2))), Prod.snd (Prod.snd (Prod.fst (Prod.snd s2)))),
                                                          IntKind.wrap IntKind.i64 (Prod.snd (Prod.snd s2) + (1 : Int)))
                                                        h11 ∧
                                                      μ1
                                                          (Prod.fst s2, (Prod.fst (Prod.fst (Prod.snd s2)), Prod.fst (Prod.snd (Prod.fst (Prod.snd s2))), Prod.snd (Prod.snd (Prod.fst (Prod.snd s2)))),
                                                            IntKind.wrap IntKind.i64 (Prod.snd (Prod.snd s2) + (1 : Int)))
                                                          h11 <
                                                        μ1 s2 h3))
                                                (I0
                                                    (Prod.fst s2, (Prod.fst (Prod.fst (Prod.snd s2)), Prod.fst (Prod.snd (Prod.fst (Prod.snd s2))), Prod.snd (Prod.snd (Prod.fst (Prod.snd s2)))),
                                                      IntKind.wrap IntKind.i64 (Prod.snd (Prod.snd s2) + (1 : Int)))
                                                    h11 ∧
                                                  μ1
                                                      (Prod.fst s2, (Prod.fst (Prod.fst (Prod.snd s2)), Prod.fst (Prod.snd (Prod.fst (Prod.snd s2))), Prod.snd (Prod.snd (Prod.fst (Prod.snd s2)))),
                                                        IntKind.wrap IntKind.i64 (Prod.snd (Prod.snd s2) + (1 : Int)))
                                                      h11 <
                                                    μ1 s2 h3)))
              (R
                (Value.tuple
                  #[Value.int IntKind.u64 (Prod.fst s2), Value.slice (Prod.fst (Prod.fst (Prod.snd s2))) (Prod.fst (Prod.snd (Prod.fst (Prod.snd s2)))) (Prod.snd (Prod.snd (Prod.fst (Prod.snd s2)))),
                    Value.int IntKind.i64 (0 : Int)])
                h3))
theorem C_slot_Load (d : Option Addr) (at_ : Int) {h : Heap} {R : Value → Heap → Prop} (H : F_slot_Load d at_ h R) : CallsH Try.prog n_slot_Load [(.pointer d), (.int .i64 at_)].toArray h R :=
  fn_sound (A := A_slot_Load) (Eq.mp (by kernel_rfl : F_slot_Load d at_ h R = fnVc Go.Proofs.Try.prog A_slot_Load 22 [(.pointer d), (.int .i64 at_)] h R) H)

/- rolodex/slot.Save -/
def A_slot_Save : Ann := { qs := [7, 15, 17, 20, 21, 22, 25, 32, 33, 34, 35, 36, 37, 40, 43, 44, 45, 46, 50, 51, 54, 56, 59, 60, 63, 66, 70] }
def F_slot_Save (d : Option Addr) (at_ : Int) (value : Option Addr) (value_l : Nat) (value_c : Nat) (h : Heap) (R : Value → Heap → Prop) : Prop :=
  br (Option.isNone d) (R (Value.tuple #[Value.int IntKind.u64 (0 : Int), Value.int IntKind.i64 (1 : Int)]) h)
  (br (decide ((↑value_l : Int) > (110 : Int))) (R (Value.tuple #[Value.int IntKind.u64 (0 : Int), Value.int IntKind.i64 (3 : Int)]) h)
    (CallsH Try.prog n_slot_Load #[Value.pointer d, Value.int IntKind.i64 at_] h fun (v0 : Value) (h1 : Heap) =>
      Ext h h1 ∧
        ∃ (n2 : Int),
          ∃ (p3 : Option Addr),
            ∃ (l4 : Nat),
              ∃ (c5 : Nat),
                ∃ (n6 : Int),
                  v0 = Value.tuple #[Value.int IntKind.u64 n2, Value.slice p3 l4 c5, Value.int IntKind.i64 n6] ∧
                    br (n6 != (0 : Int)) (R (Value.tuple #[Value.int IntKind.u64 (0 : Int), Value.int IntKind.i64 n6]) h1)
                      (br (IntKind.wrap IntKind.u64 (n2 + (1 : Int)) == (0 : Int)) (R (Value.tuple #[Value.int IntKind.u64 (0 : Int), Value.int IntKind.i64 (5 : Int)]) h1)
                        (CallsH Try.prog n_slot_encode #[Value.int IntKind.u64 (IntKind.wrap IntKind.u64 (n2 + (1 : Int))), Value.slice value value_l value_c] h1 fun (v7 : Value) (h8 : Heap) =>
                          Ext h1 h8 ∧
                            ∃ (p9 : Option Addr),
                              ∃ (l10 : Nat),
                                ∃ (c11 : Nat),
                                  ∃ (n12 : Int),
                                    v7 = Value.tuple #[Value.slice p9 l10 c11, Value.int IntKind.i64 n12] ∧
                                      br (n12 != (0 : Int)) (R (Value.tuple #[Value.int IntKind.u64 (0 : Int), Value.int IntKind.i64 n12]) h8)
                                        ((2 : Int) ≠ (0 : Int) ∧
                                          CallsH Try.prog n_device_Device_Write
                                            #[Value.pointer d,
                                              Value.int IntKind.i64 (IntKind.wrap IntKind.i64 (at_ + IntKind.wrap IntKind.i64 (Int.tmod (IntKind.wrap IntKind.u64 (n2 + (1 : Int))) (2 : Int)))),
                                              Value.slice p9 l10 c11]
                                            h8 fun (v13 : Value) (h14 : Heap) =>
                                            ∃ (n15 : Int),
                                              v13 = Value.int IntKind.i64 n15 ∧
                                                br (n15 != (0 : Int)) (R (Value.tuple #[Value.int IntKind.u64 (0 : Int), Value.int IntKind.i64 n15]) h14)
                                                  (CallsH Try.prog n_device_Device_Flush #[Value.pointer d] h14 fun (v16 : Value) (h17 : Heap) =>
                                                    ∃ (n18 : Int),
                                                      v16 = Value.int IntKind.i64 n18 ∧
                                                        br (n18 != (0 : Int)) (R (Value.tuple #[Value.int IntKind.u64 (0 : Int), Value.int IntKind.i64 n18]) h17)
                                                          (R (Value.tuple #[Value.int IntKind.u64 (IntKind.wrap IntKind.u64 (n2 + (1 : Int))), Value.int IntKind.i64 (0 : Int)]) h17)))))))
theorem C_slot_Save (d : Option Addr) (at_ : Int) (value : Option Addr) (value_l : Nat) (value_c : Nat) {h : Heap} {R : Value → Heap → Prop} (H : F_slot_Save d at_ value value_l value_c h R) : CallsH Try.prog n_slot_Save [(.pointer d), (.int .i64 at_), (.slice value value_l value_c)].toArray h R :=
  fn_sound (A := A_slot_Save) (Eq.mp (by kernel_rfl : F_slot_Save d at_ value value_l value_c h R = fnVc Go.Proofs.Try.prog A_slot_Save 41 [(.pointer d), (.int .i64 at_), (.slice value value_l value_c)] h R) H)

end Go.Proofs.Ytbmhphnidfpclaa
