/- The formulas of some functions, and that each is what its code comes to. Written by a program of ours. -/
import Derived.Test.YtkeggnfffnodmaaVcO
import Derived.Test.YtkeggnfffnodmaaNm
import Derived.Test.YtkeggnfffnodmaaProg
import Derived.KernelRfl
set_option linter.unusedVariables false
set_option maxRecDepth 100000
namespace Go.Proofs.Ytkeggnfffnodmaa
open Go Go.Vc Go.Proofs

/- (*rolodex/wire.Writer).U64 -/
def A_wire_Writer_U64 : Ann := { qs := [8, 9, 11, 12, 13, 15, 16, 25, 26, 27, 28, 29, 30, 32, 33, 35, 36, 40, 41, 44, 46, 47, 51, 52] }
def F_wire_Writer_U64 (w : Option Addr) (x : Int) (h : Heap) (R : Value → Heap → Prop) : Prop :=
  CallsH Try.prog n_wire_Writer_number #[Value.pointer w, Value.int IntKind.u64 x, Value.int IntKind.i64 (8 : Int)] h fun (v0 : Value) (h1 : Heap) => v0 = Value.tuple #[] ∧ R (Value.tuple #[]) h1
theorem C_wire_Writer_U64 (w : Option Addr) (x : Int) {h : Heap} {R : Value → Heap → Prop} (H : F_wire_Writer_U64 w x h R) : CallsH Try.prog n_wire_Writer_U64 [(.pointer w), (.int .u64 x)].toArray h R :=
  fn_sound (A := A_wire_Writer_U64) (Eq.mp (by kernel_rfl : F_wire_Writer_U64 w x h R = fnVc Go.Proofs.Try.prog A_wire_Writer_U64 37 [(.pointer w), (.int .u64 x)] h R) H)

/- (*rolodex/wire.Writer).String -/
def A_wire_Writer_String : Ann := { qs := [8, 9, 11, 12, 13, 15, 16, 25, 26, 27, 28, 29, 30, 32, 33, 35, 36, 40, 41, 44, 46, 47, 51, 52] }
def F_wire_Writer_String (w : Option Addr) (b : Option Addr) (b_l : Nat) (b_c : Nat) (h : Heap) (R : Value → Heap → Prop) : Prop :=
  CallsH Try.prog n_wire_Writer_within #[Value.pointer w, Value.int IntKind.i64 (↑b_l : Int), Value.int IntKind.i64 (8192 : Int)] h fun (v0 : Value) (h1 : Heap) =>
  ∃ (t2 : Bool),
    v0 = Value.bool t2 ∧
      br t2
        (CallsH Try.prog n_wire_Writer_number #[Value.pointer w, Value.int IntKind.u64 (IntKind.wrap IntKind.u64 (↑b_l : Int)), Value.int IntKind.i64 (2 : Int)] h1 fun (v3 : Value) (h4 : Heap) =>
          v3 = Value.tuple #[] ∧ CallsH Try.prog n_wire_Writer_Plain #[Value.pointer w, Value.slice b b_l b_c] h4 fun (v5 : Value) (h6 : Heap) => v5 = Value.tuple #[] ∧ R (Value.tuple #[]) h6)
        (R (Value.tuple #[]) h1)
theorem C_wire_Writer_String (w : Option Addr) (b : Option Addr) (b_l : Nat) (b_c : Nat) {h : Heap} {R : Value → Heap → Prop} (H : F_wire_Writer_String w b b_l b_c h R) : CallsH Try.prog n_wire_Writer_String [(.pointer w), (.slice b b_l b_c)].toArray h R :=
  fn_sound (A := A_wire_Writer_String) (Eq.mp (by kernel_rfl : F_wire_Writer_String w b b_l b_c h R = fnVc Go.Proofs.Try.prog A_wire_Writer_String 38 [(.pointer w), (.slice b b_l b_c)] h R) H)

/- (*rolodex/wire.Writer).Plain -/
def A_wire_Writer_Plain : Ann := { qs := [8, 9, 11, 12, 13, 15, 16, 25, 26, 27, 28, 29, 30, 32, 33, 35, 36, 40, 41, 44, 46, 47, 51, 52] }
def F_wire_Writer_Plain (w : Option Addr) (b : Option Addr) (b_l : Nat) (b_c : Nat) (h : Heap) (R : Value → Heap → Prop) : Prop :=
  br (!Option.isNone w)
  (deref w fun (a0 : Addr) =>
    ∃ (t1 : Bool),
      cell h (Addr.add a0 (1 : Nat)) = some (Value.bool t1) ∧
        br (!t1)
          (deref w fun (a2 : Addr) =>
            ∃ (p3 : Option Addr),
              ∃ (l4 : Nat),
                ∃ (c5 : Nat),
                  cell h (Addr.add a2 (0 : Nat)) = some (Value.slice p3 l4 c5) ∧
                    appendP (5 : Nat) (1 : Nat) (1 : Nat) #[Value.int IntKind.u8 (0 : Int)] p3 l4 c5 b b_l h fun (p6 : Option Addr) (l7 c8 : Nat) (h9 : Heap) =>
                      deref w fun (a10 : Addr) => storeP none h9 a10 (Value.slice p6 l7 c8) fun (h11 : Heap) => R (Value.tuple #[]) h11)
          (R (Value.tuple #[]) h))
  (R (Value.tuple #[]) h)
theorem C_wire_Writer_Plain (w : Option Addr) (b : Option Addr) (b_l : Nat) (b_c : Nat) {h : Heap} {R : Value → Heap → Prop} (H : F_wire_Writer_Plain w b b_l b_c h R) : CallsH Try.prog n_wire_Writer_Plain [(.pointer w), (.slice b b_l b_c)].toArray h R :=
  fn_sound (A := A_wire_Writer_Plain) (Eq.mp (by kernel_rfl : F_wire_Writer_Plain w b b_l b_c h R = fnVc Go.Proofs.Try.prog A_wire_Writer_Plain 39 [(.pointer w), (.slice b b_l b_c)] h R) H)

/- (*rolodex/wire.Writer).Out -/
def A_wire_Writer_Out : Ann := { qs := [8, 9, 11, 12, 13, 15, 16, 25, 26, 27, 28, 29, 30, 32, 33, 35, 36, 40, 41, 44, 46, 47, 51, 52] }
def F_wire_Writer_Out (w : Option Addr) (h : Heap) (R : Value → Heap → Prop) : Prop :=
  br (Option.isNone w) (R (Value.tuple #[Value.slice none (0 : Nat) (0 : Nat), Value.int IntKind.i64 (1 : Int)]) h)
  (deref w fun (a0 : Addr) =>
    ∃ (t1 : Bool),
      cell h (Addr.add a0 (1 : Nat)) = some (Value.bool t1) ∧
        br t1 (R (Value.tuple #[Value.slice none (0 : Nat) (0 : Nat), Value.int IntKind.i64 (4 : Int)]) h)
          (deref w fun (a2 : Addr) =>
            ∃ (p3 : Option Addr),
              ∃ (l4 : Nat),
                ∃ (c5 : Nat),
                  cell h (Addr.add a2 (0 : Nat)) = some (Value.slice p3 l4 c5) ∧
                    CallsH Try.prog n_slices_Clone_byte_byte #[Value.slice p3 l4 c5] h fun (v6 : Value) (h7 : Heap) =>
                      Ext h h7 ∧ ∃ (p8 : Option Addr), ∃ (l9 : Nat), ∃ (c10 : Nat), v6 = Value.slice p8 l9 c10 ∧ R (Value.tuple #[Value.slice p8 l9 c10, Value.int IntKind.i64 (0 : Int)]) h7))
theorem C_wire_Writer_Out (w : Option Addr) {h : Heap} {R : Value → Heap → Prop} (H : F_wire_Writer_Out w h R) : CallsH Try.prog n_wire_Writer_Out [(.pointer w)].toArray h R :=
  fn_sound (A := A_wire_Writer_Out) (Eq.mp (by kernel_rfl : F_wire_Writer_Out w h R = fnVc Go.Proofs.Try.prog A_wire_Writer_Out 40 [(.pointer w)] h R) H)

/- (*rolodex/wire.Writer).number -/
def A_wire_Writer_number : Ann := { qs := [8, 9, 11, 12, 13, 15, 16, 25, 26, 27, 28, 29, 30, 32, 33, 35, 36, 40, 41, 44, 46, 47, 51, 52], loops := [(2, [(6, (.int .i64))])], plans := [(4, (.take 0 (.take 1 (.take 2 (.take 3 (.take 4 (.take 5 (.take 6 (.take 7 (.take 8 (.take 9 (.alt 10 (.alt 11 (.take 12 (.take 13 (.alt 14 .done .stop))) .stop) .stop))))))))))))] }
def F_wire_Writer_number (w : Option Addr) (x : Int) (bytes : Int) (h : Heap) (R : Value → Heap → Prop) : Prop :=
  br (Option.isNone w) (R (Value.tuple #[]) h)
  (deref w fun (a0 : Addr) =>
    ∃ (t1 : Bool),
      cell h (Addr.add a0 (1 : Nat)) = some (Value.bool t1) ∧
        br t1 (R (Value.tuple #[]) h)
          (∃ (I2 : Int → Heap → Prop),
            ∃ (μ3 : Int → Heap → Nat),
              I2 (IntKind.wrap IntKind.i64 (bytes - (1 : Int))) h ∧
                ∀ (n4 : Int) (h5 : Heap),
                  I2 n4 h5 →
                    br (decide (n4 ≥ (0 : Int)))
                      (deref w fun (a6 : Addr) =>
                        ∃ (p7 : Option Addr),
                          ∃ (l8 : Nat),
                            ∃ (c9 : Nat),
                              cell h5 (Addr.add a6 (0 : Nat)) = some (Value.slice p7 l8 c9) ∧
                                (0 : Int) ≤ IntKind.wrap IntKind.i64 ((8 : Int) * n4) ∧
                                  newBlk h5 (5 : Nat) #[Value.int IntKind.u8 (IntKind.wrap IntKind.u8 (shrI IntKind.u64 x (IntKind.wrap IntKind.i64 ((8 : Int) * n4))))] fun (b10 : Nat) (h11 : Heap) =>
                                    appendP (5 : Nat) (1 : Nat) (1 : Nat) #[Value.int IntKind.u8 (0 : Int)] p7 l8 c9 (some (Addr.mk b10 (0 : Nat) none)) (1 : Nat) h11
                                      fun (p12 : Option Addr) (l13 c14 : Nat) (h15 : Heap) =>
                                      deref w fun (a16 : Addr) =>
                                        storeP none h15 a16 (Value.slice p12 l13 c14) fun (h17 : Heap) =>
                                          I2 (IntKind.wrap IntKind.i64 (n4 - (1 : Int))) h17 ∧ μ3 (IntKind.wrap IntKind.i64 (n4 - (1 : Int))) h17 < μ3 n4 h5)
                      (R (Value.tuple #[]) h5)))
theorem C_wire_Writer_number (w : Option Addr) (x : Int) (bytes : Int) {h : Heap} {R : Value → Heap → Prop} (H : F_wire_Writer_number w x bytes h R) : CallsH Try.prog n_wire_Writer_number [(.pointer w), (.int .u64 x), (.int .i64 bytes)].toArray h R :=
  fn_sound (A := A_wire_Writer_number) (Eq.mp (by kernel_rfl : F_wire_Writer_number w x bytes h R = fnVc Go.Proofs.Try.prog A_wire_Writer_number 48 [(.pointer w), (.int .u64 x), (.int .i64 bytes)] h R) H)

/- (*rolodex/wire.Writer).within -/
def A_wire_Writer_within : Ann := { qs := [8, 9, 11, 12, 13, 15, 16, 25, 26, 27, 28, 29, 30, 32, 33, 35, 36, 40, 41, 44, 46, 47, 51, 52] }
def F_wire_Writer_within (w : Option Addr) (x : Int) (most : Int) (h : Heap) (R : Value → Heap → Prop) : Prop :=
  br (Option.isNone w) (R (Value.bool false) h)
  (br (decide (x < (0 : Int)))
    (deref w fun (a0 : Addr) =>
      storeP none h (Addr.mk (Addr.block a0) (Addr.off a0 + (1 : Nat)) none) (Value.bool true) fun (h1 : Heap) =>
        deref w fun (a2 : Addr) => ∃ (t3 : Bool), cell h1 (Addr.add a2 (1 : Nat)) = some (Value.bool t3) ∧ R (Value.bool !t3) h1)
    (br (decide (x > most))
      (deref w fun (a4 : Addr) =>
        storeP none h (Addr.mk (Addr.block a4) (Addr.off a4 + (1 : Nat)) none) (Value.bool true) fun (h5 : Heap) =>
          deref w fun (a6 : Addr) => ∃ (t7 : Bool), cell h5 (Addr.add a6 (1 : Nat)) = some (Value.bool t7) ∧ R (Value.bool !t7) h5)
      (deref w fun (a8 : Addr) => ∃ (t9 : Bool), cell h (Addr.add a8 (1 : Nat)) = some (Value.bool t9) ∧ R (Value.bool !t9) h)))
theorem C_wire_Writer_within (w : Option Addr) (x : Int) (most : Int) {h : Heap} {R : Value → Heap → Prop} (H : F_wire_Writer_within w x most h R) : CallsH Try.prog n_wire_Writer_within [(.pointer w), (.int .i64 x), (.int .i64 most)].toArray h R :=
  fn_sound (A := A_wire_Writer_within) (Eq.mp (by kernel_rfl : F_wire_Writer_within w x most h R = fnVc Go.Proofs.Try.prog A_wire_Writer_within 49 [(.pointer w), (.int .i64 x), (.int .i64 most)] h R) H)

/- rolodex/wire.New -/
def A_wire_New : Ann := { qs := [8, 9, 11, 12, 13, 15, 16, 25, 26, 27, 28, 29, 30, 32, 33, 35, 36, 40, 41, 44, 46, 47, 51, 52] }
def F_wire_New (b : Option Addr) (b_l : Nat) (b_c : Nat) (h : Heap) (R : Value → Heap → Prop) : Prop :=
  CallsH Try.prog n_slices_Clone_byte_byte #[Value.slice b b_l b_c] h fun (v0 : Value) (h1 : Heap) =>
  Ext h h1 ∧
    ∃ (p2 : Option Addr),
      ∃ (l3 : Nat),
        ∃ (c4 : Nat), v0 = Value.slice p2 l3 c4 ∧ newBlk h1 (90 : Nat) #[Value.slice p2 l3 c4, Value.bool false] fun (b5 : Nat) (h6 : Heap) => R (Value.pointer (some (Addr.mk b5 (0 : Nat) none))) h6
theorem C_wire_New (b : Option Addr) (b_l : Nat) (b_c : Nat) {h : Heap} {R : Value → Heap → Prop} (H : F_wire_New b b_l b_c h R) : CallsH Try.prog n_wire_New [(.slice b b_l b_c)].toArray h R :=
  fn_sound (A := A_wire_New) (Eq.mp (by kernel_rfl : F_wire_New b b_l b_c h R = fnVc Go.Proofs.Try.prog A_wire_New 41 [(.slice b b_l b_c)] h R) H)

/- (*rolodex/wire.Reader).U64 -/
def A_wire_Reader_U64 : Ann := { qs := [8, 9, 11, 12, 13, 15, 16, 25, 26, 27, 28, 29, 30, 32, 33, 35, 36, 40, 41, 44, 46, 47, 51, 52] }
def F_wire_Reader_U64 (r : Option Addr) (h : Heap) (R : Value → Heap → Prop) : Prop :=
  CallsH Try.prog n_wire_Reader_number #[Value.pointer r, Value.int IntKind.i64 (8 : Int)] h fun (v0 : Value) (h1 : Heap) => ∃ (n2 : Int), v0 = Value.int IntKind.u64 n2 ∧ R (Value.int IntKind.u64 n2) h1
theorem C_wire_Reader_U64 (r : Option Addr) {h : Heap} {R : Value → Heap → Prop} (H : F_wire_Reader_U64 r h R) : CallsH Try.prog n_wire_Reader_U64 [(.pointer r)].toArray h R :=
  fn_sound (A := A_wire_Reader_U64) (Eq.mp (by kernel_rfl : F_wire_Reader_U64 r h R = fnVc Go.Proofs.Try.prog A_wire_Reader_U64 42 [(.pointer r)] h R) H)

/- (*rolodex/wire.Reader).String -/
def A_wire_Reader_String : Ann := { qs := [8, 9, 11, 12, 13, 15, 16, 25, 26, 27, 28, 29, 30, 32, 33, 35, 36, 40, 41, 44, 46, 47, 51, 52] }
def F_wire_Reader_String (r : Option Addr) (most : Int) (h : Heap) (R : Value → Heap → Prop) : Prop :=
  CallsH Try.prog n_wire_Reader_peek #[Value.pointer r, Value.int IntKind.i64 (2 : Int)] h fun (v0 : Value) (h1 : Heap) =>
  Ext h h1 ∧
    ∃ (n2 : Int),
      ∃ (t3 : Bool),
        v0 = Value.tuple #[Value.int IntKind.u64 n2, Value.bool t3] ∧
          br (!t3) (CallsH Try.prog n_wire_Reader_spoil #[Value.pointer r] h1 fun (v4 : Value) (h5 : Heap) => v4 = Value.tuple #[] ∧ R (Value.slice none (0 : Nat) (0 : Nat)) h5)
            (br (decide (IntKind.wrap IntKind.i64 n2 > most))
              (CallsH Try.prog n_wire_Reader_spoil #[Value.pointer r] h1 fun (v6 : Value) (h7 : Heap) => v6 = Value.tuple #[] ∧ R (Value.slice none (0 : Nat) (0 : Nat)) h7)
              (br (decide (n2 > (8192 : Int))) (CallsH Try.prog n_wire_Reader_spoil #[Value.pointer r] h1 fun (v8 : Value) (h9 : Heap) => v8 = Value.tuple #[] ∧ R (Value.slice none (0 : Nat) (0 : Nat)) h9)
                (CallsH Try.prog n_wire_Reader_Left #[Value.pointer r] h1 fun (v10 : Value) (h11 : Heap) =>
                  Ext h1 h11 ∧
                    ∃ (n12 : Int),
                      v10 = Value.int IntKind.i64 n12 ∧
                        br (decide (IntKind.wrap IntKind.i64 n2 > IntKind.wrap IntKind.i64 (n12 - (2 : Int))))
                          (CallsH Try.prog n_wire_Reader_spoil #[Value.pointer r] h11 fun (v13 : Value) (h14 : Heap) => v13 = Value.tuple #[] ∧ R (Value.slice none (0 : Nat) (0 : Nat)) h14)
                          (CallsH Try.prog n_wire_Reader_number #[Value.pointer r, Value.int IntKind.i64 (2 : Int)] h11 fun (v15 : Value) (h16 : Heap) =>
                            ∃ (n17 : Int),
                              v15 = Value.int IntKind.u64 n17 ∧
                                CallsH Try.prog n_wire_Reader_takes #[Value.pointer r, Value.int IntKind.i64 (IntKind.wrap IntKind.i64 n2)] h16 fun (v18 : Value) (h19 : Heap) =>
                                  ∃ (p20 : Option Addr), ∃ (l21 : Nat), ∃ (c22 : Nat), v18 = Value.slice p20 l21 c22 ∧ R (Value.slice p20 l21 c22) h19))))
theorem C_wire_Reader_String (r : Option Addr) (most : Int) {h : Heap} {R : Value → Heap → Prop} (H : F_wire_Reader_String r most h R) : CallsH Try.prog n_wire_Reader_String [(.pointer r), (.int .i64 most)].toArray h R :=
  fn_sound (A := A_wire_Reader_String) (Eq.mp (by kernel_rfl : F_wire_Reader_String r most h R = fnVc Go.Proofs.Try.prog A_wire_Reader_String 43 [(.pointer r), (.int .i64 most)] h R) H)

/- (*rolodex/wire.Reader).Fails -/
def A_wire_Reader_Fails : Ann := { qs := [8, 9, 11, 12, 13, 15, 16, 25, 26, 27, 28, 29, 30, 32, 33, 35, 36, 40, 41, 44, 46, 47, 51, 52] }
def F_wire_Reader_Fails (r : Option Addr) (h : Heap) (R : Value → Heap → Prop) : Prop :=
  br (Option.isNone r) (R (Value.bool true) h) (deref r fun (a0 : Addr) => ∃ (t1 : Bool), cell h (Addr.add a0 (1 : Nat)) = some (Value.bool t1) ∧ R (Value.bool t1) h)
theorem C_wire_Reader_Fails (r : Option Addr) {h : Heap} {R : Value → Heap → Prop} (H : F_wire_Reader_Fails r h R) : CallsH Try.prog n_wire_Reader_Fails [(.pointer r)].toArray h R :=
  fn_sound (A := A_wire_Reader_Fails) (Eq.mp (by kernel_rfl : F_wire_Reader_Fails r h R = fnVc Go.Proofs.Try.prog A_wire_Reader_Fails 44 [(.pointer r)] h R) H)

/- (*rolodex/wire.Reader).Plain -/
def A_wire_Reader_Plain : Ann := { qs := [8, 9, 11, 12, 13, 15, 16, 25, 26, 27, 28, 29, 30, 32, 33, 35, 36, 40, 41, 44, 46, 47, 51, 52] }
def F_wire_Reader_Plain (r : Option Addr) (n : Int) (h : Heap) (R : Value → Heap → Prop) : Prop :=
  CallsH Try.prog n_wire_Reader_takes #[Value.pointer r, Value.int IntKind.i64 n] h fun (v0 : Value) (h1 : Heap) =>
  ∃ (p2 : Option Addr), ∃ (l3 : Nat), ∃ (c4 : Nat), v0 = Value.slice p2 l3 c4 ∧ R (Value.slice p2 l3 c4) h1
theorem C_wire_Reader_Plain (r : Option Addr) (n : Int) {h : Heap} {R : Value → Heap → Prop} (H : F_wire_Reader_Plain r n h R) : CallsH Try.prog n_wire_Reader_Plain [(.pointer r), (.int .i64 n)].toArray h R :=
  fn_sound (A := A_wire_Reader_Plain) (Eq.mp (by kernel_rfl : F_wire_Reader_Plain r n h R = fnVc Go.Proofs.Try.prog A_wire_Reader_Plain 45 [(.pointer r), (.int .i64 n)] h R) H)

/- (*rolodex/wire.Reader).Done -/
def A_wire_Reader_Done : Ann := { qs := [8, 9, 11, 12, 13, 15, 16, 25, 26, 27, 28, 29, 30, 32, 33, 35, 36, 40, 41, 44, 46, 47, 51, 52] }
def F_wire_Reader_Done (r : Option Addr) (h : Heap) (R : Value → Heap → Prop) : Prop :=
  CallsH Try.prog n_wire_Reader_Fails #[Value.pointer r] h fun (v0 : Value) (h1 : Heap) =>
  Ext h h1 ∧
    ∃ (t2 : Bool),
      v0 = Value.bool t2 ∧
        br (!t2) (CallsH Try.prog n_wire_Reader_Left #[Value.pointer r] h1 fun (v3 : Value) (h4 : Heap) => Ext h1 h4 ∧ ∃ (n5 : Int), v3 = Value.int IntKind.i64 n5 ∧ R (Value.bool (n5 == (0 : Int))) h4)
          (R (Value.bool false) h1)
theorem C_wire_Reader_Done (r : Option Addr) {h : Heap} {R : Value → Heap → Prop} (H : F_wire_Reader_Done r h R) : CallsH Try.prog n_wire_Reader_Done [(.pointer r)].toArray h R :=
  fn_sound (A := A_wire_Reader_Done) (Eq.mp (by kernel_rfl : F_wire_Reader_Done r h R = fnVc Go.Proofs.Try.prog A_wire_Reader_Done 46 [(.pointer r)] h R) H)

/- (*rolodex/wire.Reader).number -/
def A_wire_Reader_number : Ann := { qs := [8, 9, 11, 12, 13, 15, 16, 25, 26, 27, 28, 29, 30, 32, 33, 35, 36, 40, 41, 44, 46, 47, 51, 52] }
def F_wire_Reader_number (r : Option Addr) (bytes : Int) (h : Heap) (R : Value → Heap → Prop) : Prop :=
  CallsH Try.prog n_wire_Reader_peek #[Value.pointer r, Value.int IntKind.i64 bytes] h fun (v0 : Value) (h1 : Heap) =>
  Ext h h1 ∧
    ∃ (n2 : Int),
      ∃ (t3 : Bool),
        v0 = Value.tuple #[Value.int IntKind.u64 n2, Value.bool t3] ∧
          CallsH Try.prog n_wire_Reader_takes #[Value.pointer r, Value.int IntKind.i64 bytes] h1 fun (v4 : Value) (h5 : Heap) =>
            ∃ (p6 : Option Addr), ∃ (l7 : Nat), ∃ (c8 : Nat), v4 = Value.slice p6 l7 c8 ∧ br (!t3) (R (Value.int IntKind.u64 (0 : Int)) h5) (R (Value.int IntKind.u64 n2) h5)
theorem C_wire_Reader_number (r : Option Addr) (bytes : Int) {h : Heap} {R : Value → Heap → Prop} (H : F_wire_Reader_number r bytes h R) : CallsH Try.prog n_wire_Reader_number [(.pointer r), (.int .i64 bytes)].toArray h R :=
  fn_sound (A := A_wire_Reader_number) (Eq.mp (by kernel_rfl : F_wire_Reader_number r bytes h R = fnVc Go.Proofs.Try.prog A_wire_Reader_number 50 [(.pointer r), (.int .i64 bytes)] h R) H)

/- (*rolodex/wire.Reader).peek -/
def A_wire_Reader_peek : Ann := { qs := [8, 9, 11, 12, 13, 15, 16, 25, 26, 27, 28, 29, 30, 32, 33, 35, 36, 40, 41, 44, 46, 47, 51, 52], loops := [(5, [(6, (.int .u64)), (33, (.int .i64))])] }
def F_wire_Reader_peek (r : Option Addr) (bytes : Int) (h : Heap) (R : Value → Heap → Prop) : Prop :=
  br (Option.isNone r) (R (Value.tuple #[Value.int IntKind.u64 (0 : Int), Value.bool false]) h)
  (deref r fun (a0 : Addr) =>
    ∃ (t1 : Bool),
      cell h (Addr.add a0 (1 : Nat)) = some (Value.bool t1) ∧
        br t1 (R (Value.tuple #[Value.int IntKind.u64 (0 : Int), Value.bool false]) h)
          (deref r fun (a2 : Addr) =>
            ∃ (p3 : Option Addr),
              ∃ (l4 : Nat),
                ∃ (c5 : Nat),
                  cell h (Addr.add a2 (0 : Nat)) = some (Value.slice p3 l4 c5) ∧
                    br (decide ((↑l4 : Int) < bytes)) (R (Value.tuple #[Value.int IntKind.u64 (0 : Int), Value.bool false]) h)
                      (deref r fun (a6 : Addr) =>
                        ∃ (p7 : Option Addr),
                          ∃ (l8 : Nat),
                            ∃ (c9 : Nat),
                              cell h (Addr.add a6 (0 : Nat)) = some (Value.slice p7 l8 c9) ∧
                                sliceP (1 : Nat) p7 (0 : Int) bytes (↑c9 : Int) c9 fun (p10 : Option Addr) (l11 c12 : Nat) =>
                                  ∃ (I13 : Int × Int → Heap → Prop),
                                    ∃ (μ14 : Int × Int → Heap → Nat),
                                      I13 ((0 : Int), (0 : Int)) h ∧
                                        ∀ (s15 : Int × Int) (h16 : Heap),
                                          I13 s15 h16 →
                                            br (decide (Prod.snd s15 < (↑l11 : Int)))
                                              ((0 : Int) ≤ Prod.snd s15 ∧
                                                Prod.snd s15 < (↑l11 : Int) ∧
                                                  deref p10 fun (a17 : Addr) =>
                                                    ∃ (n18 : Int),
                                                      cell h16 (Addr.add a17 (Int.toNat (Prod.snd s15) * (1 : Nat))) = some (Value.int IntKind.u8 n18) ∧
                                                        (0 : Int) ≤ (8 : Int) ∧
                                                          I13
                                                              (orI IntKind.u64 (shlI IntKind.u64 (Prod.fst s15) (8 : Int)) (IntKind.wrap IntKind.u64 n18),
                                                                IntKind.wrap IntKind.i64 (Prod.snd s15 + (1 : Int)))
                                                              h16 ∧
                                                            μ14
                                                                (orI IntKind.u64 (shlI IntKind.u64 (Prod.fst s15) (8 : Int)) (IntKind.wrap IntKind.u64 n18),
                                                                  IntKind.wrap IntKind.i64 (Prod.snd s15 + (1 : Int)))
                                                                h16 <
                                                              μ14 s15 h16)
                                              (R (Value.tuple #[Value.int IntKind.u64 (Prod.fst s15), Value.bool true]) h16))))
theorem C_wire_Reader_peek (r : Option Addr) (bytes : Int) {h : Heap} {R : Value → Heap → Prop} (H : F_wire_Reader_peek r bytes h R) : CallsH Try.prog n_wire_Reader_peek [(.pointer r), (.int .i64 bytes)].toArray h R :=
  fn_sound (A := A_wire_Reader_peek) (Eq.mp (by kernel_rfl : F_wire_Reader_peek r bytes h R = fnVc Go.Proofs.Try.prog A_wire_Reader_peek 51 [(.pointer r), (.int .i64 bytes)] h R) H)

/- (*rolodex/wire.Reader).Left -/
def A_wire_Reader_Left : Ann := { qs := [8, 9, 11, 12, 13, 15, 16, 25, 26, 27, 28, 29, 30, 32, 33, 35, 36, 40, 41, 44, 46, 47, 51, 52] }
def F_wire_Reader_Left (r : Option Addr) (h : Heap) (R : Value → Heap → Prop) : Prop :=
  br (Option.isNone r) (R (Value.int IntKind.i64 (0 : Int)) h)
  (deref r fun (a0 : Addr) => ∃ (p1 : Option Addr), ∃ (l2 : Nat), ∃ (c3 : Nat), cell h (Addr.add a0 (0 : Nat)) = some (Value.slice p1 l2 c3) ∧ R (Value.int IntKind.i64 (↑l2 : Int)) h)
theorem C_wire_Reader_Left (r : Option Addr) {h : Heap} {R : Value → Heap → Prop} (H : F_wire_Reader_Left r h R) : CallsH Try.prog n_wire_Reader_Left [(.pointer r)].toArray h R :=
  fn_sound (A := A_wire_Reader_Left) (Eq.mp (by kernel_rfl : F_wire_Reader_Left r h R = fnVc Go.Proofs.Try.prog A_wire_Reader_Left 52 [(.pointer r)] h R) H)

/- (*rolodex/wire.Reader).spoil -/
def A_wire_Reader_spoil : Ann := { qs := [8, 9, 11, 12, 13, 15, 16, 25, 26, 27, 28, 29, 30, 32, 33, 35, 36, 40, 41, 44, 46, 47, 51, 52] }
def F_wire_Reader_spoil (r : Option Addr) (h : Heap) (R : Value → Heap → Prop) : Prop :=
  br (!Option.isNone r) (deref r fun (a0 : Addr) => storeP none h (Addr.mk (Addr.block a0) (Addr.off a0 + (1 : Nat)) none) (Value.bool true) fun (h1 : Heap) => R (Value.tuple #[]) h1)
  (R (Value.tuple #[]) h)
theorem C_wire_Reader_spoil (r : Option Addr) {h : Heap} {R : Value → Heap → Prop} (H : F_wire_Reader_spoil r h R) : CallsH Try.prog n_wire_Reader_spoil [(.pointer r)].toArray h R :=
  fn_sound (A := A_wire_Reader_spoil) (Eq.mp (by kernel_rfl : F_wire_Reader_spoil r h R = fnVc Go.Proofs.Try.prog A_wire_Reader_spoil 53 [(.pointer r)] h R) H)

/- (*rolodex/wire.Reader).takes -/
def A_wire_Reader_takes : Ann := { qs := [8, 9, 11, 12, 13, 15, 16, 25, 26, 27, 28, 29, 30, 32, 33, 35, 36, 40, 41, 44, 46, 47, 51, 52] }
def F_wire_Reader_takes (r : Option Addr) (n : Int) (h : Heap) (R : Value → Heap → Prop) : Prop :=
  br (Option.isNone r) (R (Value.slice none (0 : Nat) (0 : Nat)) h)
  (deref r fun (a0 : Addr) =>
    ∃ (t1 : Bool),
      cell h (Addr.add a0 (1 : Nat)) = some (Value.bool t1) ∧
        br t1 (R (Value.slice none (0 : Nat) (0 : Nat)) h)
          (br (decide (n < (0 : Int)))
            (deref r fun (a2 : Addr) => storeP none h (Addr.mk (Addr.block a2) (Addr.off a2 + (1 : Nat)) none) (Value.bool true) fun (h3 : Heap) => R (Value.slice none (0 : Nat) (0 : Nat)) h3)
            (deref r fun (a4 : Addr) =>
              ∃ (p5 : Option Addr),
                ∃ (l6 : Nat),
                  ∃ (c7 : Nat),
                    cell h (Addr.add a4 (0 : Nat)) = some (Value.slice p5 l6 c7) ∧
                      br (decide (n > (↑l6 : Int)))
                        (deref r fun (a8 : Addr) =>
                          storeP none h (Addr.mk (Addr.block a8) (Addr.off a8 + (1 : Nat)) none) (Value.bool true) fun (h9 : Heap) => R (Value.slice none (0 : Nat) (0 : Nat)) h9)
                        (deref r fun (a10 : Addr) =>
                          ∃ (p11 : Option Addr),
                            ∃ (l12 : Nat),
                              ∃ (c13 : Nat),
                                cell h (Addr.add a10 (0 : Nat)) = some (Value.slice p11 l12 c13) ∧
                                  sliceP (1 : Nat) p11 (0 : Int) n n c13 fun (p14 : Option Addr) (l15 c16 : Nat) =>
                                    deref r fun (a17 : Addr) =>
                                      ∃ (p18 : Option Addr),
                                        ∃ (l19 : Nat),
                                          ∃ (c20 : Nat),
                                            cell h (Addr.add a17 (0 : Nat)) = some (Value.slice p18 l19 c20) ∧
                                              sliceP (1 : Nat) p18 n (↑l19 : Int) (↑c20 : Int) c20 fun (p21 : Option Addr) (l22 c23 : Nat) =>
                                                deref r fun (a24 : Addr) => storeP none h a24 (Value.slice p21 l22 c23) fun (h25 : Heap) => R (Value.slice p14 l15 c16) h25))))
theorem C_wire_Reader_takes (r : Option Addr) (n : Int) {h : Heap} {R : Value → Heap → Prop} (H : F_wire_Reader_takes r n h R) : CallsH Try.prog n_wire_Reader_takes [(.pointer r), (.int .i64 n)].toArray h R :=
  fn_sound (A := A_wire_Reader_takes) (Eq.mp (by kernel_rfl : F_wire_Reader_takes r n h R = fnVc Go.Proofs.Try.prog A_wire_Reader_takes 54 [(.pointer r), (.int .i64 n)] h R) H)

end Go.Proofs.Ytkeggnfffnodmaa
