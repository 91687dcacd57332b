/- The formulas of some functions, and that each is what its code comes to. Written by a program of ours. -/
import Derived.Test.YthlmiijlhiiccaaGreatV
import Derived.Test.YthlmiijlhiiccaaGreatNm
import Derived.Test.YthlmiijlhiiccaaGreatProg
import Derived.KernelRfl
set_option linter.unusedVariables false
set_option maxRecDepth 100000
namespace Go.Proofs.YthlmiijlhiiccaaGreat
open Go Go.Vc Go.Proofs

/- slices.Clone[[]byte,byte] -/
def A_slices_Clone_byte_byte : Ann := { qs := [4, 5, 6, 7, 8, 9, 10, 11, 13, 14, 16, 17, 18, 19, 20, 21, 22, 23, 24, 25, 27, 37, 38, 41, 42, 58, 59, 60, 61, 62, 81, 86, 93, 94, 98, 106, 108, 109, 110, 112] }
def F_slices_Clone_byte_byte (s : Option Addr) (s_l : Nat) (s_c : Nat) (h : Heap) (R : Value → Heap → Prop) : Prop :=
 br (Option.isNone s) (R (Value.slice none (0 : Nat) (0 : Nat)) h)
 (newBlk h (5 : Nat) #[] fun (b0 : Nat) (h1 : Heap) =>
 appendP (5 : Nat) (1 : Nat) (1 : Nat) #[Value.int IntKind.u8 (0 : Int)] (some (Addr.mk b0 (0 : Nat) none)) (0 : Nat) (0 : Nat) s s_l h1 fun (p2 : Option Addr) (l3 c4 : Nat) (h5 : Heap) =>
 R (Value.slice p2 l3 c4) h5)
theorem C_slices_Clone_byte_byte (s : Option Addr) (s_l : Nat) (s_c : Nat) {h : Heap} {R : Value → Heap → Prop} (H : F_slices_Clone_byte_byte s s_l s_c h R) : CallsH Tryz.prog n_slices_Clone_byte_byte [(.slice s s_l s_c)].toArray h R :=
  fn_sound (A := A_slices_Clone_byte_byte) (Eq.mp (by kernel_rfl : F_slices_Clone_byte_byte s s_l s_c h R = fnVc Go.Proofs.Tryz.prog A_slices_Clone_byte_byte 42 [(.slice s s_l s_c)] h R) H)

/- rolodex/rolodexref01.Same -/
def A_ref01_Same : Ann := { qs := [4, 5, 6, 7, 8, 9, 10, 11, 13, 14, 16, 17, 18, 19, 20, 21, 22, 23, 24, 25, 27, 37, 38, 41, 42, 58, 59, 60, 61, 62, 81, 86, 93, 94, 98, 106, 108, 109, 110, 112], loops := [(4, [(5, (.int .i64))])], plans := [(6, (.take 0 (.take 1 (.take 2 (.take 3 (.take 4 (.take 5 (.take 6 (.take 7 (.take 8 .done))))))))))] }
def F_ref01_Same (a : Option Addr) (a_l : Nat) (a_c : Nat) (b : Option Addr) (b_l : Nat) (b_c : Nat) (h : Heap) (R : Value → Heap → Prop) : Prop :=
 br ((↑a_l : Int) != (↑b_l : Int)) (R (Value.bool false) h)
 (∃ (I0 : Int → Heap → Prop),
 ∃ (μ1 : Int → Heap → Nat),
 I0 (0 : Int) h ∧
 ∀ (n2 : Int) (h3 : Heap),
 I0 n2 h3 →
 br (decide (n2 < (↑a_l : Int)))
 ((0 : Int) ≤ n2 ∧
 n2 < (↑a_l : Int) ∧
 deref a fun (a4 : Addr) =>
 ∃ (n5 : Int),
 cell h3 (Addr.add a4 (Int.toNat n2 * (1 : Nat))) = some (Value.int IntKind.u8 n5) ∧
 (0 : Int) ≤ n2 ∧
 n2 < (↑b_l : Int) ∧
 deref b fun (a6 : Addr) =>
 ∃ (n7 : Int),
 cell h3 (Addr.add a6 (Int.toNat n2 * (1 : Nat))) = some (Value.int IntKind.u8 n7) ∧
 br (n5 != n7) (R (Value.bool false) h3) (I0 (IntKind.wrap IntKind.i64 (n2 + (1 : Int))) h3 ∧ μ1 (IntKind.wrap IntKind.i64 (n2 + (1 : Int))) h3 < μ1 n2 h3))
 (R (Value.bool true) h3))
theorem C_ref01_Same (a : Option Addr) (a_l : Nat) (a_c : Nat) (b : Option Addr) (b_l : Nat) (b_c : Nat) {h : Heap} {R : Value → Heap → Prop} (H : F_ref01_Same a a_l a_c b b_l b_c h R) : CallsH Tryz.prog n_ref01_Same [(.slice a a_l a_c), (.slice b b_l b_c)].toArray h R :=
  fn_sound (A := A_ref01_Same) (Eq.mp (by kernel_rfl : F_ref01_Same a a_l a_c b b_l b_c h R = fnVc Go.Proofs.Tryz.prog A_ref01_Same 8 [(.slice a a_l a_c), (.slice b b_l b_c)] h R) H)

/- rolodex/rolodexref01.Number -/
def A_ref01_Number : Ann := { qs := [4, 5, 6, 7, 8, 9, 10, 11, 13, 14, 16, 17, 18, 19, 20, 21, 22, 23, 24, 25, 27, 37, 38, 41, 42, 58, 59, 60, 61, 62, 81, 86, 93, 94, 98, 106, 108, 109, 110, 112], loops := [(3, [(0, (.int .u64)), (5, .slice), (7, (.int .i64))]), (8, [(6, .slice), (8, (.int .i64))])] }
def F_ref01_Number (x : Int) (bytes : Int) (h : Heap) (R : Value → Heap → Prop) : Prop :=
 ∃ (I0 : Int × (Option Addr × Nat × Nat) × Int → Heap → Prop),
 ∃ (μ1 : Int × (Option Addr × Nat × Nat) × Int → Heap → Nat),
 I0 (x, (none, (0 : Nat), (0 : Nat)), (0 : Int)) h ∧
 ∀ (s2 : Int × (Option Addr × Nat × Nat) × Int) (h3 : Heap),
 I0 s2 h3 →
 br (decide (Prod.snd (Prod.snd s2) < bytes))
 ((256 : Int) ≠ (0 : Int) ∧
 newBlk h3 (5 : Nat) #[Value.int IntKind.u8 (IntKind.wrap IntKind.u8 (Int.tmod (Prod.fst s2) (256 : Int)))] fun (b4 : Nat) (h5 : Heap) =>
 appendP (5 : Nat) (1 : Nat) (1 : Nat) #[Value.int IntKind.u8 (0 : Int)] (Prod.fst (Prod.fst (Prod.snd s2))) (Prod.fst (Prod.snd (Prod.fst (Prod.snd s2))))
 (Prod.snd (Prod.snd (Prod.fst (Prod.snd s2)))) (some (Addr.mk b4 (0 : Nat) none)) (1 : Nat) h5 fun (p6 : Option Addr) (l7 c8 : Nat) (h9 : Heap) =>
 (256 : Int) ≠ (0 : Int) ∧
 I0 (IntKind.wrap IntKind.u64 (Int.tdiv (Prod.fst s2) (256 : Int)), (p6, l7, c8), IntKind.wrap IntKind.i64 (Prod.snd (Prod.snd s2) + (1 : Int))) h9 ∧
 μ1 (IntKind.wrap IntKind.u64 (Int.tdiv (Prod.fst s2) (256 : Int)), (p6, l7, c8), IntKind.wrap IntKind.i64 (Prod.snd (Prod.snd s2) + (1 : Int))) h9 < μ1 s2 h3)
 (∃ (I10 : (Option Addr × Nat × Nat) × Int → Heap → Prop),
 ∃ (μ11 : (Option Addr × Nat × Nat) × Int → Heap → Nat),
 I10 ((none, (0 : Nat), (0 : Nat)), IntKind.wrap IntKind.i64 (bytes - (1 : Int))) h3 ∧
 ∀ (s12 : (Option Addr × Nat × Nat) × Int) (h13 : Heap),
 I10 s12 h13 →
 br (decide (Prod.snd s12 ≥ (0 : Int)))
 ((0 : Int) ≤ Prod.snd s12 ∧
 Prod.snd s12 < (↑(Prod.fst (Prod.snd (Prod.fst (Prod.snd s2)))) : Int) ∧
 deref (Prod.fst (Prod.fst (Prod.snd s2))) fun (a14 : Addr) =>
 ∃ (n15 : Int),
 cell h13 (Addr.add a14 (Int.toNat (Prod.snd s12) * (1 : Nat))) = some (Value.int IntKind.u8 n15) ∧
 newBlk h13 (5 : Nat) #[Value.int IntKind.u8 n15] fun (b16 : Nat) (h17 : Heap) =>
 appendP (5 : Nat) (1 : Nat) (1 : Nat) #[Value.int IntKind.u8 (0 : Int)] (Prod.fst (Prod.fst s12)) (Prod.fst (Prod.snd (Prod.fst s12)))
 (Prod.snd (Prod.snd (Prod.fst s12))) (some (Addr.mk b16 (0 : Nat) none)) (1 : Nat) h17 fun (p18 : Option Addr) (l19 c20 : Nat) (h21 : Heap) =>
 I10 ((p18, l19, c20), IntKind.wrap IntKind.i64 (Prod.snd s12 - (1 : Int))) h21 ∧
 μ11 ((p18, l19, c20), IntKind.wrap IntKind.i64 (Prod.snd s12 - (1 : Int))) h21 < μ11 s12 h13)
 (R (Value.slice (Prod.fst (Prod.fst s12)) (Prod.fst (Prod.snd (Prod.fst s12))) (Prod.snd (Prod.snd (Prod.fst s12)))) h13))
theorem C_ref01_Number (x : Int) (bytes : Int) {h : Heap} {R : Value → Heap → Prop} (H : F_ref01_Number x bytes h R) : CallsH Tryz.prog n_ref01_Number [(.int .u64 x), (.int .i64 bytes)].toArray h R :=
  fn_sound (A := A_ref01_Number) (Eq.mp (by kernel_rfl : F_ref01_Number x bytes h R = fnVc Go.Proofs.Tryz.prog A_ref01_Number 61 [(.int .u64 x), (.int .i64 bytes)] h R) H)

/- (*rolodex/wire.Writer).U8 -/
def A_wire_Writer_U8 : Ann := { qs := [4, 5, 6, 7, 8, 9, 10, 11, 13, 14, 16, 17, 18, 19, 20, 21, 22, 23, 24, 25, 27, 37, 38, 41, 42, 58, 59, 60, 61, 62, 81, 86, 93, 94, 98, 106, 108, 109, 110, 112] }
def F_wire_Writer_U8 (w : Option Addr) (x : Int) (h : Heap) (R : Value → Heap → Prop) : Prop :=
 CallsH Tryz.prog n_wire_Writer_within #[Value.pointer w, Value.int IntKind.i64 x, Value.int IntKind.i64 (255 : Int)] h fun (v0 : Value) (h1 : Heap) =>
 ∃ (t2 : Bool),
 v0 = Value.bool t2 ∧
 br t2
 (CallsH Tryz.prog n_wire_Writer_number #[Value.pointer w, Value.int IntKind.u64 (IntKind.wrap IntKind.u64 x), Value.int IntKind.i64 (1 : Int)] h1 fun (v3 : Value) (h4 : Heap) =>
 v3 = Value.tuple #[] ∧ R (Value.tuple #[]) h4)
 (R (Value.tuple #[]) h1)
theorem C_wire_Writer_U8 (w : Option Addr) (x : Int) {h : Heap} {R : Value → Heap → Prop} (H : F_wire_Writer_U8 w x h R) : CallsH Tryz.prog n_wire_Writer_U8 [(.pointer w), (.int .i64 x)].toArray h R :=
  fn_sound (A := A_wire_Writer_U8) (Eq.mp (by kernel_rfl : F_wire_Writer_U8 w x h R = fnVc Go.Proofs.Tryz.prog A_wire_Writer_U8 39 [(.pointer w), (.int .i64 x)] h R) H)

/- (*rolodex/wire.Writer).U16 -/
def A_wire_Writer_U16 : Ann := { qs := [4, 5, 6, 7, 8, 9, 10, 11, 13, 14, 16, 17, 18, 19, 20, 21, 22, 23, 24, 25, 27, 37, 38, 41, 42, 58, 59, 60, 61, 62, 81, 86, 93, 94, 98, 106, 108, 109, 110, 112] }
def F_wire_Writer_U16 (w : Option Addr) (x : Int) (h : Heap) (R : Value → Heap → Prop) : Prop :=
 CallsH Tryz.prog n_wire_Writer_within #[Value.pointer w, Value.int IntKind.i64 x, Value.int IntKind.i64 (65535 : Int)] h fun (v0 : Value) (h1 : Heap) =>
 ∃ (t2 : Bool),
 v0 = Value.bool t2 ∧
 br t2
 (CallsH Tryz.prog n_wire_Writer_number #[Value.pointer w, Value.int IntKind.u64 (IntKind.wrap IntKind.u64 x), Value.int IntKind.i64 (2 : Int)] h1 fun (v3 : Value) (h4 : Heap) =>
 v3 = Value.tuple #[] ∧ R (Value.tuple #[]) h4)
 (R (Value.tuple #[]) h1)
theorem C_wire_Writer_U16 (w : Option Addr) (x : Int) {h : Heap} {R : Value → Heap → Prop} (H : F_wire_Writer_U16 w x h R) : CallsH Tryz.prog n_wire_Writer_U16 [(.pointer w), (.int .i64 x)].toArray h R :=
  fn_sound (A := A_wire_Writer_U16) (Eq.mp (by kernel_rfl : F_wire_Writer_U16 w x h R = fnVc Go.Proofs.Tryz.prog A_wire_Writer_U16 111 [(.pointer w), (.int .i64 x)] h R) H)

/- (*rolodex/wire.Writer).U32 -/
def A_wire_Writer_U32 : Ann := { qs := [4, 5, 6, 7, 8, 9, 10, 11, 13, 14, 16, 17, 18, 19, 20, 21, 22, 23, 24, 25, 27, 37, 38, 41, 42, 58, 59, 60, 61, 62, 81, 86, 93, 94, 98, 106, 108, 109, 110, 112] }
def F_wire_Writer_U32 (w : Option Addr) (x : Int) (h : Heap) (R : Value → Heap → Prop) : Prop :=
 CallsH Tryz.prog n_wire_Writer_number #[Value.pointer w, Value.int IntKind.u64 (IntKind.wrap IntKind.u64 x), Value.int IntKind.i64 (4 : Int)] h fun (v0 : Value) (h1 : Heap) =>
 v0 = Value.tuple #[] ∧ R (Value.tuple #[]) h1
theorem C_wire_Writer_U32 (w : Option Addr) (x : Int) {h : Heap} {R : Value → Heap → Prop} (H : F_wire_Writer_U32 w x h R) : CallsH Tryz.prog n_wire_Writer_U32 [(.pointer w), (.int .u32 x)].toArray h R :=
  fn_sound (A := A_wire_Writer_U32) (Eq.mp (by kernel_rfl : F_wire_Writer_U32 w x h R = fnVc Go.Proofs.Tryz.prog A_wire_Writer_U32 96 [(.pointer w), (.int .u32 x)] h R) H)

/- (*rolodex/wire.Writer).Flag -/
def A_wire_Writer_Flag : Ann := { qs := [4, 5, 6, 7, 8, 9, 10, 11, 13, 14, 16, 17, 18, 19, 20, 21, 22, 23, 24, 25, 27, 37, 38, 41, 42, 58, 59, 60, 61, 62, 81, 86, 93, 94, 98, 106, 108, 109, 110, 112] }
def F_wire_Writer_Flag (w : Option Addr) (b : Bool) (h : Heap) (R : Value → Heap → Prop) : Prop :=
 br b (CallsH Tryz.prog n_wire_Writer_number #[Value.pointer w, Value.int IntKind.u64 (1 : Int), Value.int IntKind.i64 (1 : Int)] h fun (v0 : Value) (h1 : Heap) => v0 = Value.tuple #[] ∧ R (Value.tuple #[]) h1)
 (CallsH Tryz.prog n_wire_Writer_number #[Value.pointer w, Value.int IntKind.u64 (0 : Int), Value.int IntKind.i64 (1 : Int)] h fun (v2 : Value) (h3 : Heap) => v2 = Value.tuple #[] ∧ R (Value.tuple #[]) h3)
theorem C_wire_Writer_Flag (w : Option Addr) (b : Bool) {h : Heap} {R : Value → Heap → Prop} (H : F_wire_Writer_Flag w b h R) : CallsH Tryz.prog n_wire_Writer_Flag [(.pointer w), (.bool b)].toArray h R :=
  fn_sound (A := A_wire_Writer_Flag) (Eq.mp (by kernel_rfl : F_wire_Writer_Flag w b h R = fnVc Go.Proofs.Tryz.prog A_wire_Writer_Flag 104 [(.pointer w), (.bool b)] h R) H)

/- (*rolodex/wire.Writer).Count -/
def A_wire_Writer_Count : Ann := { qs := [4, 5, 6, 7, 8, 9, 10, 11, 13, 14, 16, 17, 18, 19, 20, 21, 22, 23, 24, 25, 27, 37, 38, 41, 42, 58, 59, 60, 61, 62, 81, 86, 93, 94, 98, 106, 108, 109, 110, 112] }
def F_wire_Writer_Count (w : Option Addr) (n : Int) (h : Heap) (R : Value → Heap → Prop) : Prop :=
 CallsH Tryz.prog n_wire_Writer_within #[Value.pointer w, Value.int IntKind.i64 n, Value.int IntKind.i64 (4096 : Int)] h fun (v0 : Value) (h1 : Heap) =>
 ∃ (t2 : Bool),
 v0 = Value.bool t2 ∧
 br t2
 (CallsH Tryz.prog n_wire_Writer_number #[Value.pointer w, Value.int IntKind.u64 (IntKind.wrap IntKind.u64 n), Value.int IntKind.i64 (2 : Int)] h1 fun (v3 : Value) (h4 : Heap) =>
 v3 = Value.tuple #[] ∧ R (Value.tuple #[]) h4)
 (R (Value.tuple #[]) h1)
theorem C_wire_Writer_Count (w : Option Addr) (n : Int) {h : Heap} {R : Value → Heap → Prop} (H : F_wire_Writer_Count w n h R) : CallsH Tryz.prog n_wire_Writer_Count [(.pointer w), (.int .i64 n)].toArray h R :=
  fn_sound (A := A_wire_Writer_Count) (Eq.mp (by kernel_rfl : F_wire_Writer_Count w n h R = fnVc Go.Proofs.Tryz.prog A_wire_Writer_Count 103 [(.pointer w), (.int .i64 n)] h R) H)

/- (*rolodex/wire.Writer).String -/
def A_wire_Writer_String : Ann := { qs := [4, 5, 6, 7, 8, 9, 10, 11, 13, 14, 16, 17, 18, 19, 20, 21, 22, 23, 24, 25, 27, 37, 38, 41, 42, 58, 59, 60, 61, 62, 81, 86, 93, 94, 98, 106, 108, 109, 110, 112] }
def F_wire_Writer_String (w : Option Addr) (b : Option Addr) (b_l : Nat) (b_c : Nat) (h : Heap) (R : Value → Heap → Prop) : Prop :=
 CallsH Tryz.prog n_wire_Writer_within #[Value.pointer w, Value.int IntKind.i64 (↑b_l : Int), Value.int IntKind.i64 (8192 : Int)] h fun (v0 : Value) (h1 : Heap) =>
 ∃ (t2 : Bool),
 v0 = Value.bool t2 ∧
 br t2
 (CallsH Tryz.prog n_wire_Writer_number #[Value.pointer w, Value.int IntKind.u64 (IntKind.wrap IntKind.u64 (↑b_l : Int)), Value.int IntKind.i64 (2 : Int)] h1 fun (v3 : Value) (h4 : Heap) =>
 v3 = Value.tuple #[] ∧ CallsH Tryz.prog n_wire_Writer_Plain #[Value.pointer w, Value.slice b b_l b_c] h4 fun (v5 : Value) (h6 : Heap) => v5 = Value.tuple #[] ∧ R (Value.tuple #[]) h6)
 (R (Value.tuple #[]) h1)
theorem C_wire_Writer_String (w : Option Addr) (b : Option Addr) (b_l : Nat) (b_c : Nat) {h : Heap} {R : Value → Heap → Prop} (H : F_wire_Writer_String w b b_l b_c h R) : CallsH Tryz.prog n_wire_Writer_String [(.pointer w), (.slice b b_l b_c)].toArray h R :=
  fn_sound (A := A_wire_Writer_String) (Eq.mp (by kernel_rfl : F_wire_Writer_String w b b_l b_c h R = fnVc Go.Proofs.Tryz.prog A_wire_Writer_String 97 [(.pointer w), (.slice b b_l b_c)] h R) H)

/- (*rolodex/wire.Writer).Plain -/
def A_wire_Writer_Plain : Ann := { qs := [4, 5, 6, 7, 8, 9, 10, 11, 13, 14, 16, 17, 18, 19, 20, 21, 22, 23, 24, 25, 27, 37, 38, 41, 42, 58, 59, 60, 61, 62, 81, 86, 93, 94, 98, 106, 108, 109, 110, 112] }
def F_wire_Writer_Plain (w : Option Addr) (b : Option Addr) (b_l : Nat) (b_c : Nat) (h : Heap) (R : Value → Heap → Prop) : Prop :=
 br (!Option.isNone w)
 (deref w fun (a0 : Addr) =>
 ∃ (t1 : Bool),
 cell h (Addr.add a0 (1 : Nat)) = some (Value.bool t1) ∧
 br (!t1)
 (deref w fun (a2 : Addr) =>
 ∃ (p3 : Option Addr),
 ∃ (l4 : Nat),
 ∃ (c5 : Nat),
 cell h (Addr.add a2 (0 : Nat)) = some (Value.slice p3 l4 c5) ∧
 appendP (5 : Nat) (1 : Nat) (1 : Nat) #[Value.int IntKind.u8 (0 : Int)] p3 l4 c5 b b_l h fun (p6 : Option Addr) (l7 c8 : Nat) (h9 : Heap) =>
 deref w fun (a10 : Addr) => storeP none h9 a10 (Value.slice p6 l7 c8) fun (h11 : Heap) => R (Value.tuple #[]) h11)
 (R (Value.tuple #[]) h))
 (R (Value.tuple #[]) h)
theorem C_wire_Writer_Plain (w : Option Addr) (b : Option Addr) (b_l : Nat) (b_c : Nat) {h : Heap} {R : Value → Heap → Prop} (H : F_wire_Writer_Plain w b b_l b_c h R) : CallsH Tryz.prog n_wire_Writer_Plain [(.pointer w), (.slice b b_l b_c)].toArray h R :=
  fn_sound (A := A_wire_Writer_Plain) (Eq.mp (by kernel_rfl : F_wire_Writer_Plain w b b_l b_c h R = fnVc Go.Proofs.Tryz.prog A_wire_Writer_Plain 99 [(.pointer w), (.slice b b_l b_c)] h R) H)

/- (*rolodex/wire.Writer).Out -/
def A_wire_Writer_Out : Ann := { qs := [4, 5, 6, 7, 8, 9, 10, 11, 13, 14, 16, 17, 18, 19, 20, 21, 22, 23, 24, 25, 27, 37, 38, 41, 42, 58, 59, 60, 61, 62, 81, 86, 93, 94, 98, 106, 108, 109, 110, 112] }
def F_wire_Writer_Out (w : Option Addr) (h : Heap) (R : Value → Heap → Prop) : Prop :=
 br (Option.isNone w) (R (Value.tuple #[Value.slice none (0 : Nat) (0 : Nat), Value.int IntKind.i64 (1 : Int)]) h)
 (deref w fun (a0 : Addr) =>
 ∃ (t1 : Bool),
 cell h (Addr.add a0 (1 : Nat)) = some (Value.bool t1) ∧
 br t1 (R (Value.tuple #[Value.slice none (0 : Nat) (0 : Nat), Value.int IntKind.i64 (4 : Int)]) h)
 (deref w fun (a2 : Addr) =>
 ∃ (p3 : Option Addr),
 ∃ (l4 : Nat),
 ∃ (c5 : Nat),
 cell h (Addr.add a2 (0 : Nat)) = some (Value.slice p3 l4 c5) ∧
 CallsH Tryz.prog n_slices_Clone_byte_byte #[Value.slice p3 l4 c5] h fun (v6 : Value) (h7 : Heap) =>
 Ext h h7 ∧ ∃ (p8 : Option Addr), ∃ (l9 : Nat), ∃ (c10 : Nat), v6 = Value.slice p8 l9 c10 ∧ R (Value.tuple #[Value.slice p8 l9 c10, Value.int IntKind.i64 (0 : Int)]) h7))
theorem C_wire_Writer_Out (w : Option Addr) {h : Heap} {R : Value → Heap → Prop} (H : F_wire_Writer_Out w h R) : CallsH Tryz.prog n_wire_Writer_Out [(.pointer w)].toArray h R :=
  fn_sound (A := A_wire_Writer_Out) (Eq.mp (by kernel_rfl : F_wire_Writer_Out w h R = fnVc Go.Proofs.Tryz.prog A_wire_Writer_Out 41 [(.pointer w)] h R) H)

/- (*rolodex/wire.Writer).number -/
def A_wire_Writer_number : Ann := { qs := [4, 5, 6, 7, 8, 9, 10, 11, 13, 14, 16, 17, 18, 19, 20, 21, 22, 23, 24, 25, 27, 37, 38, 41, 42, 58, 59, 60, 61, 62, 81, 86, 93, 94, 98, 106, 108, 109, 110, 112], loops := [(2, [(6, (.int .i64))])], plans := [(4, (.take 0 (.take 1 (.take 2 (.take 3 (.take 4 (.take 5 (.take 6 (.take 7 (.take 8 (.take 9 (.alt 10 (.alt 11 (.take 12 (.take 13 (.alt 14 .done .stop))) .stop) .stop))))))))))))] }
def F_wire_Writer_number (w : Option Addr) (x : Int) (bytes : Int) (h : Heap) (R : Value → Heap → Prop) : Prop :=
 br (Option.isNone w) (R (Value.tuple #[]) h)
 (deref w fun (a0 : Addr) =>
 ∃ (t1 : Bool),
 cell h (Addr.add a0 (1 : Nat)) = some (Value.bool t1) ∧
 br t1 (R (Value.tuple #[]) h)
 (∃ (I2 : Int → Heap → Prop),
 ∃ (μ3 : Int → Heap → Nat),
 I2 (IntKind.wrap IntKind.i64 (bytes - (1 : Int))) h ∧
 ∀ (n4 : Int) (h5 : Heap),
 I2 n4 h5 →
 br (decide (n4 ≥ (0 : Int)))
 (deref w fun (a6 : Addr) =>
 ∃ (p7 : Option Addr),
 ∃ (l8 : Nat),
 ∃ (c9 : Nat),
 cell h5 (Addr.add a6 (0 : Nat)) = some (Value.slice p7 l8 c9) ∧
 (0 : Int) ≤ IntKind.wrap IntKind.i64 ((8 : Int) * n4) ∧
 newBlk h5 (5 : Nat) #[Value.int IntKind.u8 (IntKind.wrap IntKind.u8 (shrI IntKind.u64 x (IntKind.wrap IntKind.i64 ((8 : Int) * n4))))] fun (b10 : Nat) (h11 : Heap) =>
 appendP (5 : Nat) (1 : Nat) (1 : Nat) #[Value.int IntKind.u8 (0 : Int)] p7 l8 c9 (some (Addr.mk b10 (0 : Nat) none)) (1 : Nat) h11
 fun (p12 : Option Addr) (l13 c14 : Nat) (h15 : Heap) =>
 deref w fun (a16 : Addr) =>
 storeP none h15 a16 (Value.slice p12 l13 c14) fun (h17 : Heap) =>
 I2 (IntKind.wrap IntKind.i64 (n4 - (1 : Int))) h17 ∧ μ3 (IntKind.wrap IntKind.i64 (n4 - (1 : Int))) h17 < μ3 n4 h5)
 (R (Value.tuple #[]) h5)))
theorem C_wire_Writer_number (w : Option Addr) (x : Int) (bytes : Int) {h : Heap} {R : Value → Heap → Prop} (H : F_wire_Writer_number w x bytes h R) : CallsH Tryz.prog n_wire_Writer_number [(.pointer w), (.int .u64 x), (.int .i64 bytes)].toArray h R :=
  fn_sound (A := A_wire_Writer_number) (Eq.mp (by kernel_rfl : F_wire_Writer_number w x bytes h R = fnVc Go.Proofs.Tryz.prog A_wire_Writer_number 66 [(.pointer w), (.int .u64 x), (.int .i64 bytes)] h R) H)

/- (*rolodex/wire.Writer).within -/
def A_wire_Writer_within : Ann := { qs := [4, 5, 6, 7, 8, 9, 10, 11, 13, 14, 16, 17, 18, 19, 20, 21, 22, 23, 24, 25, 27, 37, 38, 41, 42, 58, 59, 60, 61, 62, 81, 86, 93, 94, 98, 106, 108, 109, 110, 112] }
def F_wire_Writer_within (w : Option Addr) (x : Int) (most : Int) (h : Heap) (R : Value → Heap → Prop) : Prop :=
 br (Option.isNone w) (R (Value.bool false) h)
 (br (decide (x < (0 : Int)))
 (deref w fun (a0 : Addr) =>
 storeP none h (Addr.mk (Addr.block a0) (Addr.off a0 + (1 : Nat)) none) (Value.bool true) fun (h1 : Heap) =>
 deref w fun (a2 : Addr) => ∃ (t3 : Bool), cell h1 (Addr.add a2 (1 : Nat)) = some (Value.bool t3) ∧ R (Value.bool !t3) h1)
 (br (decide (x > most))
 (deref w fun (a4 : Addr) =>
 storeP none h (Addr.mk (Addr.block a4) (Addr.off a4 + (1 : Nat)) none) (Value.bool true) fun (h5 : Heap) =>
 deref w fun (a6 : Addr) => ∃ (t7 : Bool), cell h5 (Addr.add a6 (1 : Nat)) = some (Value.bool t7) ∧ R (Value.bool !t7) h5)
 (deref w fun (a8 : Addr) => ∃ (t9 : Bool), cell h (Addr.add a8 (1 : Nat)) = some (Value.bool t9) ∧ R (Value.bool !t9) h)))
theorem C_wire_Writer_within (w : Option Addr) (x : Int) (most : Int) {h : Heap} {R : Value → Heap → Prop} (H : F_wire_Writer_within w x most h R) : CallsH Tryz.prog n_wire_Writer_within [(.pointer w), (.int .i64 x), (.int .i64 most)].toArray h R :=
  fn_sound (A := A_wire_Writer_within) (Eq.mp (by kernel_rfl : F_wire_Writer_within w x most h R = fnVc Go.Proofs.Tryz.prog A_wire_Writer_within 65 [(.pointer w), (.int .i64 x), (.int .i64 most)] h R) H)

/- rolodex/wire.New -/
def A_wire_New : Ann := { qs := [4, 5, 6, 7, 8, 9, 10, 11, 13, 14, 16, 17, 18, 19, 20, 21, 22, 23, 24, 25, 27, 37, 38, 41, 42, 58, 59, 60, 61, 62, 81, 86, 93, 94, 98, 106, 108, 109, 110, 112] }
def F_wire_New (b : Option Addr) (b_l : Nat) (b_c : Nat) (h : Heap) (R : Value → Heap → Prop) : Prop :=
 CallsH Tryz.prog n_slices_Clone_byte_byte #[Value.slice b b_l b_c] h fun (v0 : Value) (h1 : Heap) =>
 Ext h h1 ∧
 ∃ (p2 : Option Addr),
 ∃ (l3 : Nat),
 ∃ (c4 : Nat), v0 = Value.slice p2 l3 c4 ∧ newBlk h1 (108 : Nat) #[Value.slice p2 l3 c4, Value.bool false] fun (b5 : Nat) (h6 : Heap) => R (Value.pointer (some (Addr.mk b5 (0 : Nat) none))) h6
theorem C_wire_New (b : Option Addr) (b_l : Nat) (b_c : Nat) {h : Heap} {R : Value → Heap → Prop} (H : F_wire_New b b_l b_c h R) : CallsH Tryz.prog n_wire_New [(.slice b b_l b_c)].toArray h R :=
  fn_sound (A := A_wire_New) (Eq.mp (by kernel_rfl : F_wire_New b b_l b_c h R = fnVc Go.Proofs.Tryz.prog A_wire_New 11 [(.slice b b_l b_c)] h R) H)

/- (*rolodex/wire.Reader).U8 -/
def A_wire_Reader_U8 : Ann := { qs := [4, 5, 6, 7, 8, 9, 10, 11, 13, 14, 16, 17, 18, 19, 20, 21, 22, 23, 24, 25, 27, 37, 38, 41, 42, 58, 59, 60, 61, 62, 81, 86, 93, 94, 98, 106, 108, 109, 110, 112] }
def F_wire_Reader_U8 (r : Option Addr) (h : Heap) (R : Value → Heap → Prop) : Prop :=
 CallsH Tryz.prog n_wire_Reader_number #[Value.pointer r, Value.int IntKind.i64 (1 : Int)] h fun (v0 : Value) (h1 : Heap) =>
 ∃ (n2 : Int), v0 = Value.int IntKind.u64 n2 ∧ R (Value.int IntKind.i64 (IntKind.wrap IntKind.i64 n2)) h1
theorem C_wire_Reader_U8 (r : Option Addr) {h : Heap} {R : Value → Heap → Prop} (H : F_wire_Reader_U8 r h R) : CallsH Tryz.prog n_wire_Reader_U8 [(.pointer r)].toArray h R :=
  fn_sound (A := A_wire_Reader_U8) (Eq.mp (by kernel_rfl : F_wire_Reader_U8 r h R = fnVc Go.Proofs.Tryz.prog A_wire_Reader_U8 12 [(.pointer r)] h R) H)

/- (*rolodex/wire.Reader).U16 -/
def A_wire_Reader_U16 : Ann := { qs := [4, 5, 6, 7, 8, 9, 10, 11, 13, 14, 16, 17, 18, 19, 20, 21, 22, 23, 24, 25, 27, 37, 38, 41, 42, 58, 59, 60, 61, 62, 81, 86, 93, 94, 98, 106, 108, 109, 110, 112] }
def F_wire_Reader_U16 (r : Option Addr) (h : Heap) (R : Value → Heap → Prop) : Prop :=
 CallsH Tryz.prog n_wire_Reader_number #[Value.pointer r, Value.int IntKind.i64 (2 : Int)] h fun (v0 : Value) (h1 : Heap) =>
 ∃ (n2 : Int), v0 = Value.int IntKind.u64 n2 ∧ R (Value.int IntKind.i64 (IntKind.wrap IntKind.i64 n2)) h1
theorem C_wire_Reader_U16 (r : Option Addr) {h : Heap} {R : Value → Heap → Prop} (H : F_wire_Reader_U16 r h R) : CallsH Tryz.prog n_wire_Reader_U16 [(.pointer r)].toArray h R :=
  fn_sound (A := A_wire_Reader_U16) (Eq.mp (by kernel_rfl : F_wire_Reader_U16 r h R = fnVc Go.Proofs.Tryz.prog A_wire_Reader_U16 107 [(.pointer r)] h R) H)

/- (*rolodex/wire.Reader).U32 -/
def A_wire_Reader_U32 : Ann := { qs := [4, 5, 6, 7, 8, 9, 10, 11, 13, 14, 16, 17, 18, 19, 20, 21, 22, 23, 24, 25, 27, 37, 38, 41, 42, 58, 59, 60, 61, 62, 81, 86, 93, 94, 98, 106, 108, 109, 110, 112] }
def F_wire_Reader_U32 (r : Option Addr) (h : Heap) (R : Value → Heap → Prop) : Prop :=
 CallsH Tryz.prog n_wire_Reader_number #[Value.pointer r, Value.int IntKind.i64 (4 : Int)] h fun (v0 : Value) (h1 : Heap) =>
 ∃ (n2 : Int), v0 = Value.int IntKind.u64 n2 ∧ R (Value.int IntKind.u32 (IntKind.wrap IntKind.u32 n2)) h1
theorem C_wire_Reader_U32 (r : Option Addr) {h : Heap} {R : Value → Heap → Prop} (H : F_wire_Reader_U32 r h R) : CallsH Tryz.prog n_wire_Reader_U32 [(.pointer r)].toArray h R :=
  fn_sound (A := A_wire_Reader_U32) (Eq.mp (by kernel_rfl : F_wire_Reader_U32 r h R = fnVc Go.Proofs.Tryz.prog A_wire_Reader_U32 83 [(.pointer r)] h R) H)

/- (*rolodex/wire.Reader).Flag -/
def A_wire_Reader_Flag : Ann := { qs := [4, 5, 6, 7, 8, 9, 10, 11, 13, 14, 16, 17, 18, 19, 20, 21, 22, 23, 24, 25, 27, 37, 38, 41, 42, 58, 59, 60, 61, 62, 81, 86, 93, 94, 98, 106, 108, 109, 110, 112] }
def F_wire_Reader_Flag (r : Option Addr) (h : Heap) (R : Value → Heap → Prop) : Prop :=
 CallsH Tryz.prog n_wire_Reader_peek #[Value.pointer r, Value.int IntKind.i64 (1 : Int)] h fun (v0 : Value) (h1 : Heap) =>
 Ext h h1 ∧
 ∃ (n2 : Int),
 ∃ (t3 : Bool),
 v0 = Value.tuple #[Value.int IntKind.u64 n2, Value.bool t3] ∧
 br (!t3)
 (CallsH Tryz.prog n_wire_Reader_spoil #[Value.pointer r] h1 fun (v4 : Value) (h5 : Heap) =>
 v4 = Value.tuple #[] ∧
 CallsH Tryz.prog n_wire_Reader_number #[Value.pointer r, Value.int IntKind.i64 (1 : Int)] h5 fun (v6 : Value) (h7 : Heap) =>
 ∃ (n8 : Int), v6 = Value.int IntKind.u64 n8 ∧ R (Value.bool (n8 == (1 : Int))) h7)
 (br (decide (n2 > (1 : Int)))
 (CallsH Tryz.prog n_wire_Reader_spoil #[Value.pointer r] h1 fun (v9 : Value) (h10 : Heap) =>
 v9 = Value.tuple #[] ∧
 CallsH Tryz.prog n_wire_Reader_number #[Value.pointer r, Value.int IntKind.i64 (1 : Int)] h10 fun (v11 : Value) (h12 : Heap) =>
 ∃ (n13 : Int), v11 = Value.int IntKind.u64 n13 ∧ R (Value.bool (n13 == (1 : Int))) h12)
 (CallsH Tryz.prog n_wire_Reader_number #[Value.pointer r, Value.int IntKind.i64 (1 : Int)] h1 fun (v14 : Value) (h15 : Heap) =>
 ∃ (n16 : Int), v14 = Value.int IntKind.u64 n16 ∧ R (Value.bool (n16 == (1 : Int))) h15))
theorem C_wire_Reader_Flag (r : Option Addr) {h : Heap} {R : Value → Heap → Prop} (H : F_wire_Reader_Flag r h R) : CallsH Tryz.prog n_wire_Reader_Flag [(.pointer r)].toArray h R :=
  fn_sound (A := A_wire_Reader_Flag) (Eq.mp (by kernel_rfl : F_wire_Reader_Flag r h R = fnVc Go.Proofs.Tryz.prog A_wire_Reader_Flag 92 [(.pointer r)] h R) H)

/- (*rolodex/wire.Reader).Count -/
def A_wire_Reader_Count : Ann := { qs := [4, 5, 6, 7, 8, 9, 10, 11, 13, 14, 16, 17, 18, 19, 20, 21, 22, 23, 24, 25, 27, 37, 38, 41, 42, 58, 59, 60, 61, 62, 81, 86, 93, 94, 98, 106, 108, 109, 110, 112] }
def F_wire_Reader_Count (r : Option Addr) (most : Int) (h : Heap) (R : Value → Heap → Prop) : Prop :=
 CallsH Tryz.prog n_wire_Reader_peek #[Value.pointer r, Value.int IntKind.i64 (2 : Int)] h fun (v0 : Value) (h1 : Heap) =>
 Ext h h1 ∧
 ∃ (n2 : Int),
 ∃ (t3 : Bool),
 v0 = Value.tuple #[Value.int IntKind.u64 n2, Value.bool t3] ∧
 br (!t3) (CallsH Tryz.prog n_wire_Reader_spoil #[Value.pointer r] h1 fun (v4 : Value) (h5 : Heap) => v4 = Value.tuple #[] ∧ R (Value.int IntKind.i64 (0 : Int)) h5)
 (br (decide (IntKind.wrap IntKind.i64 n2 > most))
 (CallsH Tryz.prog n_wire_Reader_spoil #[Value.pointer r] h1 fun (v6 : Value) (h7 : Heap) => v6 = Value.tuple #[] ∧ R (Value.int IntKind.i64 (0 : Int)) h7)
 (br (decide (n2 > (4096 : Int))) (CallsH Tryz.prog n_wire_Reader_spoil #[Value.pointer r] h1 fun (v8 : Value) (h9 : Heap) => v8 = Value.tuple #[] ∧ R (Value.int IntKind.i64 (0 : Int)) h9)
 (CallsH Tryz.prog n_wire_Reader_number #[Value.pointer r, Value.int IntKind.i64 (2 : Int)] h1 fun (v10 : Value) (h11 : Heap) =>
 ∃ (n12 : Int), v10 = Value.int IntKind.u64 n12 ∧ R (Value.int IntKind.i64 (IntKind.wrap IntKind.i64 n12)) h11)))
theorem C_wire_Reader_Count (r : Option Addr) (most : Int) {h : Heap} {R : Value → Heap → Prop} (H : F_wire_Reader_Count r most h R) : CallsH Tryz.prog n_wire_Reader_Count [(.pointer r), (.int .i64 most)].toArray h R :=
  fn_sound (A := A_wire_Reader_Count) (Eq.mp (by kernel_rfl : F_wire_Reader_Count r most h R = fnVc Go.Proofs.Tryz.prog A_wire_Reader_Count 91 [(.pointer r), (.int .i64 most)] h R) H)

/- (*rolodex/wire.Reader).String -/
def A_wire_Reader_String : Ann := { qs := [4, 5, 6, 7, 8, 9, 10, 11, 13, 14, 16, 17, 18, 19, 20, 21, 22, 23, 24, 25, 27, 37, 38, 41, 42, 58, 59, 60, 61, 62, 81, 86, 93, 94, 98, 106, 108, 109, 110, 112] }
def F_wire_Reader_String (r : Option Addr) (most : Int) (h : Heap) (R : Value → Heap → Prop) : Prop :=
 CallsH Tryz.prog n_wire_Reader_peek #[Value.pointer r, Value.int IntKind.i64 (2 : Int)] h fun (v0 : Value) (h1 : Heap) =>
 Ext h h1 ∧
 ∃ (n2 : Int),
 ∃ (t3 : Bool),
 v0 = Value.tuple #[Value.int IntKind.u64 n2, Value.bool t3] ∧
 br (!t3) (CallsH Tryz.prog n_wire_Reader_spoil #[Value.pointer r] h1 fun (v4 : Value) (h5 : Heap) => v4 = Value.tuple #[] ∧ R (Value.slice none (0 : Nat) (0 : Nat)) h5)
 (br (decide (IntKind.wrap IntKind.i64 n2 > most))
 (CallsH Tryz.prog n_wire_Reader_spoil #[Value.pointer r] h1 fun (v6 : Value) (h7 : Heap) => v6 = Value.tuple #[] ∧ R (Value.slice none (0 : Nat) (0 : Nat)) h7)
 (br (decide (n2 > (8192 : Int))) (CallsH Tryz.prog n_wire_Reader_spoil #[Value.pointer r] h1 fun (v8 : Value) (h9 : Heap) => v8 = Value.tuple #[] ∧ R (Value.slice none (0 : Nat) (0 : Nat)) h9)
 (CallsH Tryz.prog n_wire_Reader_Left #[Value.pointer r] h1 fun (v10 : Value) (h11 : Heap) =>
 Ext h1 h11 ∧
 ∃ (n12 : Int),
 v10 = Value.int IntKind.i64 n12 ∧
 br (decide (IntKind.wrap IntKind.i64 n2 > IntKind.wrap IntKind.i64 (n12 - (2 : Int))))
 (CallsH Tryz.prog n_wire_Reader_spoil #[Value.pointer r] h11 fun (v13 : Value) (h14 : Heap) => v13 = Value.tuple #[] ∧ R (Value.slice none (0 : Nat) (0 : Nat)) h14)
 (CallsH Tryz.prog n_wire_Reader_number #[Value.pointer r, Value.int IntKind.i64 (2 : Int)] h11 fun (v15 : Value) (h16 : Heap) =>
 ∃ (n17 : Int),
 v15 = Value.int IntKind.u64 n17 ∧
 CallsH Tryz.prog n_wire_Reader_takes #[Value.pointer r, Value.int IntKind.i64 (IntKind.wrap IntKind.i64 n2)] h16 fun (v18 : Value) (h19 : Heap) =>
 ∃ (p20 : Option Addr), ∃ (l21 : Nat), ∃ (c22 : Nat), v18 = Value.slice p20 l21 c22 ∧ R (Value.slice p20 l21 c22) h19))))
theorem C_wire_Reader_String (r : Option Addr) (most : Int) {h : Heap} {R : Value → Heap → Prop} (H : F_wire_Reader_String r most h R) : CallsH Tryz.prog n_wire_Reader_String [(.pointer r), (.int .i64 most)].toArray h R :=
  fn_sound (A := A_wire_Reader_String) (Eq.mp (by kernel_rfl : F_wire_Reader_String r most h R = fnVc Go.Proofs.Tryz.prog A_wire_Reader_String 85 [(.pointer r), (.int .i64 most)] h R) H)

/- (*rolodex/wire.Reader).Plain -/
def A_wire_Reader_Plain : Ann := { qs := [4, 5, 6, 7, 8, 9, 10, 11, 13, 14, 16, 17, 18, 19, 20, 21, 22, 23, 24, 25, 27, 37, 38, 41, 42, 58, 59, 60, 61, 62, 81, 86, 93, 94, 98, 106, 108, 109, 110, 112] }
def F_wire_Reader_Plain (r : Option Addr) (n : Int) (h : Heap) (R : Value → Heap → Prop) : Prop :=
 CallsH Tryz.prog n_wire_Reader_takes #[Value.pointer r, Value.int IntKind.i64 n] h fun (v0 : Value) (h1 : Heap) =>
 ∃ (p2 : Option Addr), ∃ (l3 : Nat), ∃ (c4 : Nat), v0 = Value.slice p2 l3 c4 ∧ R (Value.slice p2 l3 c4) h1
theorem C_wire_Reader_Plain (r : Option Addr) (n : Int) {h : Heap} {R : Value → Heap → Prop} (H : F_wire_Reader_Plain r n h R) : CallsH Tryz.prog n_wire_Reader_Plain [(.pointer r), (.int .i64 n)].toArray h R :=
  fn_sound (A := A_wire_Reader_Plain) (Eq.mp (by kernel_rfl : F_wire_Reader_Plain r n h R = fnVc Go.Proofs.Tryz.prog A_wire_Reader_Plain 87 [(.pointer r), (.int .i64 n)] h R) H)

/- (*rolodex/wire.Reader).Done -/
def A_wire_Reader_Done : Ann := { qs := [4, 5, 6, 7, 8, 9, 10, 11, 13, 14, 16, 17, 18, 19, 20, 21, 22, 23, 24, 25, 27, 37, 38, 41, 42, 58, 59, 60, 61, 62, 81, 86, 93, 94, 98, 106, 108, 109, 110, 112] }
def F_wire_Reader_Done (r : Option Addr) (h : Heap) (R : Value → Heap → Prop) : Prop :=
 CallsH Tryz.prog n_wire_Reader_Fails #[Value.pointer r] h fun (v0 : Value) (h1 : Heap) =>
 Ext h h1 ∧
 ∃ (t2 : Bool),
 v0 = Value.bool t2 ∧
 br (!t2) (CallsH Tryz.prog n_wire_Reader_Left #[Value.pointer r] h1 fun (v3 : Value) (h4 : Heap) => Ext h1 h4 ∧ ∃ (n5 : Int), v3 = Value.int IntKind.i64 n5 ∧ R (Value.bool (n5 == (0 : Int))) h4)
 (R (Value.bool false) h1)
theorem C_wire_Reader_Done (r : Option Addr) {h : Heap} {R : Value → Heap → Prop} (H : F_wire_Reader_Done r h R) : CallsH Tryz.prog n_wire_Reader_Done [(.pointer r)].toArray h R :=
  fn_sound (A := A_wire_Reader_Done) (Eq.mp (by kernel_rfl : F_wire_Reader_Done r h R = fnVc Go.Proofs.Tryz.prog A_wire_Reader_Done 16 [(.pointer r)] h R) H)

/- (*rolodex/wire.Reader).number -/
def A_wire_Reader_number : Ann := { qs := [4, 5, 6, 7, 8, 9, 10, 11, 13, 14, 16, 17, 18, 19, 20, 21, 22, 23, 24, 25, 27, 37, 38, 41, 42, 58, 59, 60, 61, 62, 81, 86, 93, 94, 98, 106, 108, 109, 110, 112] }
def F_wire_Reader_number (r : Option Addr) (bytes : Int) (h : Heap) (R : Value → Heap → Prop) : Prop :=
 CallsH Tryz.prog n_wire_Reader_peek #[Value.pointer r, Value.int IntKind.i64 bytes] h fun (v0 : Value) (h1 : Heap) =>
 Ext h h1 ∧
 ∃ (n2 : Int),
 ∃ (t3 : Bool),
 v0 = Value.tuple #[Value.int IntKind.u64 n2, Value.bool t3] ∧
 CallsH Tryz.prog n_wire_Reader_takes #[Value.pointer r, Value.int IntKind.i64 bytes] h1 fun (v4 : Value) (h5 : Heap) =>
 ∃ (p6 : Option Addr), ∃ (l7 : Nat), ∃ (c8 : Nat), v4 = Value.slice p6 l7 c8 ∧ br (!t3) (R (Value.int IntKind.u64 (0 : Int)) h5) (R (Value.int IntKind.u64 n2) h5)
theorem C_wire_Reader_number (r : Option Addr) (bytes : Int) {h : Heap} {R : Value → Heap → Prop} (H : F_wire_Reader_number r bytes h R) : CallsH Tryz.prog n_wire_Reader_number [(.pointer r), (.int .i64 bytes)].toArray h R :=
  fn_sound (A := A_wire_Reader_number) (Eq.mp (by kernel_rfl : F_wire_Reader_number r bytes h R = fnVc Go.Proofs.Tryz.prog A_wire_Reader_number 43 [(.pointer r), (.int .i64 bytes)] h R) H)

/- (*rolodex/wire.Reader).takes -/
def A_wire_Reader_takes : Ann := { qs := [4, 5, 6, 7, 8, 9, 10, 11, 13, 14, 16, 17, 18, 19, 20, 21, 22, 23, 24, 25, 27, 37, 38, 41, 42, 58, 59, 60, 61, 62, 81, 86, 93, 94, 98, 106, 108, 109, 110, 112] }
def F_wire_Reader_takes (r : Option Addr) (n : Int) (h : Heap) (R : Value → Heap → Prop) : Prop :=
 br (Option.isNone r) (R (Value.slice none (0 : Nat) (0 : Nat)) h)
 (deref r fun (a0 : Addr) =>
 ∃ (t1 : Bool),
 cell h (Addr.add a0 (1 : Nat)) = some (Value.bool t1) ∧
 br t1 (R (Value.slice none (0 : Nat) (0 : Nat)) h)
 (br (decide (n < (0 : Int)))
 (deref r fun (a2 : Addr) => storeP none h (Addr.mk (Addr.block a2) (Addr.off a2 + (1 : Nat)) none) (Value.bool true) fun (h3 : Heap) => R (Value.slice none (0 : Nat) (0 : Nat)) h3)
 (deref r fun (a4 : Addr) =>
 ∃ (p5 : Option Addr),
 ∃ (l6 : Nat),
 ∃ (c7 : Nat),
 cell h (Addr.add a4 (0 : Nat)) = some (Value.slice p5 l6 c7) ∧
 br (decide (n > (↑l6 : Int)))
 (deref r fun (a8 : Addr) =>
 storeP none h (Addr.mk (Addr.block a8) (Addr.off a8 + (1 : Nat)) none) (Value.bool true) fun (h9 : Heap) => R (Value.slice none (0 : Nat) (0 : Nat)) h9)
 (deref r fun (a10 : Addr) =>
 ∃ (p11 : Option Addr),
 ∃ (l12 : Nat),
 ∃ (c13 : Nat),
 cell h (Addr.add a10 (0 : Nat)) = some (Value.slice p11 l12 c13) ∧
 sliceP (1 : Nat) p11 (0 : Int) n n c13 fun (p14 : Option Addr) (l15 c16 : Nat) =>
 deref r fun (a17 : Addr) =>
 ∃ (p18 : Option Addr),
 ∃ (l19 : Nat),
 ∃ (c20 : Nat),
 cell h (Addr.add a17 (0 : Nat)) = some (Value.slice p18 l19 c20) ∧
 sliceP (1 : Nat) p18 n (↑l19 : Int) (↑c20 : Int) c20 fun (p21 : Option Addr) (l22 c23 : Nat) =>
 deref r fun (a24 : Addr) => storeP none h a24 (Value.slice p21 l22 c23) fun (h25 : Heap) => R (Value.slice p14 l15 c16) h25))))
theorem C_wire_Reader_takes (r : Option Addr) (n : Int) {h : Heap} {R : Value → Heap → Prop} (H : F_wire_Reader_takes r n h R) : CallsH Tryz.prog n_wire_Reader_takes [(.pointer r), (.int .i64 n)].toArray h R :=
  fn_sound (A := A_wire_Reader_takes) (Eq.mp (by kernel_rfl : F_wire_Reader_takes r n h R = fnVc Go.Proofs.Tryz.prog A_wire_Reader_takes 82 [(.pointer r), (.int .i64 n)] h R) H)

/- (*rolodex/wire.Reader).Fails -/
def A_wire_Reader_Fails : Ann := { qs := [4, 5, 6, 7, 8, 9, 10, 11, 13, 14, 16, 17, 18, 19, 20, 21, 22, 23, 24, 25, 27, 37, 38, 41, 42, 58, 59, 60, 61, 62, 81, 86, 93, 94, 98, 106, 108, 109, 110, 112] }
def F_wire_Reader_Fails (r : Option Addr) (h : Heap) (R : Value → Heap → Prop) : Prop :=
 br (Option.isNone r) (R (Value.bool true) h) (deref r fun (a0 : Addr) => ∃ (t1 : Bool), cell h (Addr.add a0 (1 : Nat)) = some (Value.bool t1) ∧ R (Value.bool t1) h)
theorem C_wire_Reader_Fails (r : Option Addr) {h : Heap} {R : Value → Heap → Prop} (H : F_wire_Reader_Fails r h R) : CallsH Tryz.prog n_wire_Reader_Fails [(.pointer r)].toArray h R :=
  fn_sound (A := A_wire_Reader_Fails) (Eq.mp (by kernel_rfl : F_wire_Reader_Fails r h R = fnVc Go.Proofs.Tryz.prog A_wire_Reader_Fails 58 [(.pointer r)] h R) H)

/- (*rolodex/wire.Reader).Left -/
def A_wire_Reader_Left : Ann := { qs := [4, 5, 6, 7, 8, 9, 10, 11, 13, 14, 16, 17, 18, 19, 20, 21, 22, 23, 24, 25, 27, 37, 38, 41, 42, 58, 59, 60, 61, 62, 81, 86, 93, 94, 98, 106, 108, 109, 110, 112] }
def F_wire_Reader_Left (r : Option Addr) (h : Heap) (R : Value → Heap → Prop) : Prop :=
 br (Option.isNone r) (R (Value.int IntKind.i64 (0 : Int)) h)
 (deref r fun (a0 : Addr) => ∃ (p1 : Option Addr), ∃ (l2 : Nat), ∃ (c3 : Nat), cell h (Addr.add a0 (0 : Nat)) = some (Value.slice p1 l2 c3) ∧ R (Value.int IntKind.i64 (↑l2 : Int)) h)
theorem C_wire_Reader_Left (r : Option Addr) {h : Heap} {R : Value → Heap → Prop} (H : F_wire_Reader_Left r h R) : CallsH Tryz.prog n_wire_Reader_Left [(.pointer r)].toArray h R :=
  fn_sound (A := A_wire_Reader_Left) (Eq.mp (by kernel_rfl : F_wire_Reader_Left r h R = fnVc Go.Proofs.Tryz.prog A_wire_Reader_Left 59 [(.pointer r)] h R) H)

/- (*rolodex/wire.Reader).peek -/
def A_wire_Reader_peek : Ann := { qs := [4, 5, 6, 7, 8, 9, 10, 11, 13, 14, 16, 17, 18, 19, 20, 21, 22, 23, 24, 25, 27, 37, 38, 41, 42, 58, 59, 60, 61, 62, 81, 86, 93, 94, 98, 106, 108, 109, 110, 112], loops := [(5, [(6, (.int .u64)), (33, (.int .i64))])] }
def F_wire_Reader_peek (r : Option Addr) (bytes : Int) (h : Heap) (R : Value → Heap → Prop) : Prop :=
 br (Option.isNone r) (R (Value.tuple #[Value.int IntKind.u64 (0 : Int), Value.bool false]) h)
 (deref r fun (a0 : Addr) =>
 ∃ (t1 : Bool),
 cell h (Addr.add a0 (1 : Nat)) = some (Value.bool t1) ∧
 br t1 (R (Value.tuple #[Value.int IntKind.u64 (0 : Int), Value.bool false]) h)
 (deref r fun (a2 : Addr) =>
 ∃ (p3 : Option Addr),
 ∃ (l4 : Nat),
 ∃ (c5 : Nat),
 cell h (Addr.add a2 (0 : Nat)) = some (Value.slice p3 l4 c5) ∧
 br (decide ((↑l4 : Int) < bytes)) (R (Value.tuple #[Value.int IntKind.u64 (0 : Int), Value.bool false]) h)
 (deref r fun (a6 : Addr) =>
 ∃ (p7 : Option Addr),
 ∃ (l8 : Nat),
 ∃ (c9 : Nat),
 cell h (Addr.add a6 (0 : Nat)) = some (Value.slice p7 l8 c9) ∧
 sliceP (1 : Nat) p7 (0 : Int) bytes (↑c9 : Int) c9 fun (p10 : Option Addr) (l11 c12 : Nat) =>
 ∃ (I13 : Int × Int → Heap → Prop),
 ∃ (μ14 : Int × Int → Heap → Nat),
 I13 ((0 : Int), (0 : Int)) h ∧
 ∀ (s15 : Int × Int) (h16 : Heap),
 I13 s15 h16 →
 br (decide (Prod.snd s15 < (↑l11 : Int)))
 ((0 : Int) ≤ Prod.snd s15 ∧
 Prod.snd s15 < (↑l11 : Int) ∧
 deref p10 fun (a17 : Addr) =>
 ∃ (n18 : Int),
 cell h16 (Addr.add a17 (Int.toNat (Prod.snd s15) * (1 : Nat))) = some (Value.int IntKind.u8 n18) ∧
 (0 : Int) ≤ (8 : Int) ∧
 I13
 (orI IntKind.u64 (shlI IntKind.u64 (Prod.fst s15) (8 : Int)) (IntKind.wrap IntKind.u64 n18),
 IntKind.wrap IntKind.i64 (Prod.snd s15 + (1 : Int)))
 h16 ∧
 μ14
 (orI IntKind.u64 (shlI IntKind.u64 (Prod.fst s15) (8 : Int)) (IntKind.wrap IntKind.u64 n18),
 IntKind.wrap IntKind.i64 (Prod.snd s15 + (1 : Int)))
 h16 <
 μ14 s15 h16)
 (R (Value.tuple #[Value.int IntKind.u64 (Prod.fst s15), Value.bool true]) h16))))
theorem C_wire_Reader_peek (r : Option Addr) (bytes : Int) {h : Heap} {R : Value → Heap → Prop} (H : F_wire_Reader_peek r bytes h R) : CallsH Tryz.prog n_wire_Reader_peek [(.pointer r), (.int .i64 bytes)].toArray h R :=
  fn_sound (A := A_wire_Reader_peek) (Eq.mp (by kernel_rfl : F_wire_Reader_peek r bytes h R = fnVc Go.Proofs.Tryz.prog A_wire_Reader_peek 81 [(.pointer r), (.int .i64 bytes)] h R) H)

/- (*rolodex/wire.Reader).spoil -/
def A_wire_Reader_spoil : Ann := { qs := [4, 5, 6, 7, 8, 9, 10, 11, 13, 14, 16, 17, 18, 19, 20, 21, 22, 23, 24, 25, 27, 37, 38, 41, 42, 58, 59, 60, 61, 62, 81, 86, 93, 94, 98, 106, 108, 109, 110, 112] }
def F_wire_Reader_spoil (r : Option Addr) (h : Heap) (R : Value → Heap → Prop) : Prop :=
 br (!Option.isNone r) (deref r fun (a0 : Addr) => storeP none h (Addr.mk (Addr.block a0) (Addr.off a0 + (1 : Nat)) none) (Value.bool true) fun (h1 : Heap) => R (Value.tuple #[]) h1)
 (R (Value.tuple #[]) h)
theorem C_wire_Reader_spoil (r : Option Addr) {h : Heap} {R : Value → Heap → Prop} (H : F_wire_Reader_spoil r h R) : CallsH Tryz.prog n_wire_Reader_spoil [(.pointer r)].toArray h R :=
  fn_sound (A := A_wire_Reader_spoil) (Eq.mp (by kernel_rfl : F_wire_Reader_spoil r h R = fnVc Go.Proofs.Tryz.prog A_wire_Reader_spoil 105 [(.pointer r)] h R) H)

/- rolodex/prefix.Cut -/
def A_prefix_Cut : Ann := { qs := [4, 5, 6, 7, 8, 9, 10, 11, 13, 14, 16, 17, 18, 19, 20, 21, 22, 23, 24, 25, 27, 37, 38, 41, 42, 58, 59, 60, 61, 62, 81, 86, 93, 94, 98, 106, 108, 109, 110, 112], loops := [(3, [(10, (.int .i64))])], plans := [(7, (.take 0 (.take 1 (.take 2 (.take 3 (.take 4 (.take 5 (.take 6 (.take 7 (.alt 8 .done .stop))))))))))] }
def F_prefix_Cut (k : Array Value) (n : Int) (h : Heap) (R : Value → Heap → Prop) : Prop :=
 newBlk h (26 : Nat) k fun (b0 : Nat) (h1 : Heap) =>
 newBlk h1 (36 : Nat) (List.toArray (Value.int IntKind.i64 (0 : Int) :: List.replicate (32 : Nat) (Value.int IntKind.u8 (0 : Int)))) fun (b2 : Nat) (h3 : Heap) =>
 ∃ (I4 : Int → Heap → Prop),
 ∃ (μ5 : Int → Heap → Nat),
 I4 (0 : Int) h3 ∧
 ∀ (n6 : Int) (h7 : Heap),
 I4 n6 h7 →
 br (decide (n6 < (32 : Int)))
 (br (decide (minI (maxI (IntKind.wrap IntKind.i64 (minI (maxI n (0 : Int)) (256 : Int) - IntKind.wrap IntKind.i64 ((8 : Int) * n6))) (0 : Int)) (8 : Int) < (8 : Int)))
 ((0 : Int) ≤ n6 ∧
 n6 < (↑(32 : Nat) : Int) ∧
 ∃ (n8 : Int),
 cell h7 (Addr.add (Addr.mk b0 (0 : Nat) none) (Int.toNat n6 * (1 : Nat))) = some (Value.int IntKind.u8 n8) ∧
 (0 : Int) ≤ minI (maxI (IntKind.wrap IntKind.i64 (minI (maxI n (0 : Int)) (256 : Int) - IntKind.wrap IntKind.i64 ((8 : Int) * n6))) (0 : Int)) (8 : Int) ∧
 (0 : Int) ≤ n6 ∧
 n6 < (↑(32 : Nat) : Int) ∧
 storeP none h7 (Addr.add (Addr.mk b0 (0 : Nat) none) (Int.toNat n6 * (1 : Nat)))
 (Value.int IntKind.u8
 (andI IntKind.u8 n8
 (xorI IntKind.u8 (if IntKind.signed IntKind.u8 = true then (-1 : Int) else IntKind.max IntKind.u8)
 (shrI IntKind.u8 (255 : Int)
 (minI (maxI (IntKind.wrap IntKind.i64 (minI (maxI n (0 : Int)) (256 : Int) - IntKind.wrap IntKind.i64 ((8 : Int) * n6))) (0 : Int)) (8 : Int))))))
 fun (h9 : Heap) => I4 (IntKind.wrap IntKind.i64 (n6 + (1 : Int))) h9 ∧ μ5 (IntKind.wrap IntKind.i64 (n6 + (1 : Int))) h9 < μ5 n6 h7)
 (I4 (IntKind.wrap IntKind.i64 (n6 + (1 : Int))) h7 ∧ μ5 (IntKind.wrap IntKind.i64 (n6 + (1 : Int))) h7 < μ5 n6 h7))
 (∃ (cs10 : Array Value),
 row h7 (Addr.mk b0 (0 : Nat) none) (32 : Nat) = some cs10 ∧
 Array.size cs10 = (32 : Nat) ∧
 storeP (some (33 : Nat)) h7 (Addr.mk b2 (0 : Nat) none) (Value.agg (List.toArray (Value.int IntKind.i64 (minI (maxI n (0 : Int)) (256 : Int)) :: (Array.toList cs10 ++ []))))
 fun (h11 : Heap) => ∃ (cs12 : Array Value), row h11 (Addr.mk b2 (0 : Nat) none) (33 : Nat) = some cs12 ∧ R (Value.agg cs12) h11)
theorem C_prefix_Cut (k : Array Value) (n : Int) {h : Heap} {R : Value → Heap → Prop} (H : F_prefix_Cut k n h R) : CallsH Tryz.prog n_prefix_Cut [(.agg k), (.int .i64 n)].toArray h R :=
  fn_sound (A := A_prefix_Cut) (Eq.mp (by kernel_rfl : F_prefix_Cut k n h R = fnVc Go.Proofs.Tryz.prog A_prefix_Cut 112 [(.agg k), (.int .i64 n)] h R) H)

/- rolodex/prefix.Formed -/
def A_prefix_Formed : Ann := { qs := [4, 5, 6, 7, 8, 9, 10, 11, 13, 14, 16, 17, 18, 19, 20, 21, 22, 23, 24, 25, 27, 37, 38, 41, 42, 58, 59, 60, 61, 62, 81, 86, 93, 94, 98, 106, 108, 109, 110, 112], plans := [(1, (.take 0 (.take 1 (.take 2 (.take 3 (.take 4 (.take 5 (.take 6 (.take 7 (.take 8 (.take 9 (.take 10 (.take 11 (.take 12 (.take 14 (.alt 13 (.take 15 (.take 16 (.take 17 .done))) .stop))))))))))))))))] }
def F_prefix_Formed (p : Array Value) (h : Heap) (R : Value → Heap → Prop) : Prop :=
 newBlk h (36 : Nat) p fun (b0 : Nat) (h1 : Heap) =>
 ∃ (n2 : Int),
 cell h1 (Addr.add (Addr.mk b0 (0 : Nat) none) (0 : Nat)) = some (Value.int IntKind.i64 n2) ∧
 br (decide (n2 ≥ (0 : Int)))
 (∃ (n3 : Int),
 cell h1 (Addr.add (Addr.mk b0 (0 : Nat) none) (0 : Nat)) = some (Value.int IntKind.i64 n3) ∧
 br (decide (n3 ≤ (256 : Int)))
 (∃ (cs4 : Array Value),
 row h1 (Addr.add (Addr.mk b0 (0 : Nat) none) (1 : Nat)) (32 : Nat) = some cs4 ∧
 ∃ (n5 : Int),
 cell h1 (Addr.add (Addr.mk b0 (0 : Nat) none) (0 : Nat)) = some (Value.int IntKind.i64 n5) ∧
 ∃ (cs6 : Array Value),
 row h1 (Addr.mk b0 (0 : Nat) none) (33 : Nat) = some cs6 ∧
 CallsH Tryz.prog n_prefix_Cut #[Value.agg cs4, Value.int IntKind.i64 n5] h1 fun (v7 : Value) (h8 : Heap) =>
 Ext h1 h8 ∧ ∃ (cs9 : Array Value), Array.size cs9 = (33 : Nat) ∧ v7 = Value.agg cs9 ∧ eqAgg Tryz.prog (36 : Nat) cs9 cs6 fun (t10 : Bool) => R (Value.bool t10) h8)
 (R (Value.bool false) h1))
 (R (Value.bool false) h1)
theorem C_prefix_Formed (p : Array Value) {h : Heap} {R : Value → Heap → Prop} (H : F_prefix_Formed p h R) : CallsH Tryz.prog n_prefix_Formed [(.agg p)].toArray h R :=
  fn_sound (A := A_prefix_Formed) (Eq.mp (by kernel_rfl : F_prefix_Formed p h R = fnVc Go.Proofs.Tryz.prog A_prefix_Formed 108 [(.agg p)] h R) H)

/- rolodex/rolodexref03.Bit -/
def A_ref03_Bit : Ann := { qs := [4, 5, 6, 7, 8, 9, 10, 11, 13, 14, 16, 17, 18, 19, 20, 21, 22, 23, 24, 25, 27, 37, 38, 41, 42, 58, 59, 60, 61, 62, 81, 86, 93, 94, 98, 106, 108, 109, 110, 112], loops := [(5, [(5, (.int .i64)), (6, (.int .i64))])] }
def F_ref03_Bit (k : Array Value) (i : Int) (h : Heap) (R : Value → Heap → Prop) : Prop :=
 newBlk h (26 : Nat) k fun (b0 : Nat) (h1 : Heap) =>
 br (decide (i < (0 : Int))) (R (Value.int IntKind.i64 (0 : Int)) h1)
 (br (decide (i > (255 : Int))) (R (Value.int IntKind.i64 (0 : Int)) h1)
 ((8 : Int) ≠ (0 : Int) ∧
 (0 : Int) ≤ IntKind.wrap IntKind.i64 (Int.tdiv i (8 : Int)) ∧
 IntKind.wrap IntKind.i64 (Int.tdiv i (8 : Int)) < (↑(32 : Nat) : Int) ∧
 ∃ (n2 : Int),
 cell h1 (Addr.add (Addr.mk b0 (0 : Nat) none) (Int.toNat (IntKind.wrap IntKind.i64 (Int.tdiv i (8 : Int))) * (1 : Nat))) = some (Value.int IntKind.u8 n2) ∧
 ∃ (I3 : Int × Int → Heap → Prop),
 ∃ (μ4 : Int × Int → Heap → Nat),
 I3 (IntKind.wrap IntKind.i64 n2, (0 : Int)) h1 ∧
 ∀ (s5 : Int × Int) (h6 : Heap),
 I3 s5 h6 →
 (8 : Int) ≠ (0 : Int) ∧
 br (decide (Prod.snd s5 < IntKind.wrap IntKind.i64 ((7 : Int) - Int.tmod i (8 : Int))))
 ((2 : Int) ≠ (0 : Int) ∧
 I3 (IntKind.wrap IntKind.i64 (Int.tdiv (Prod.fst s5) (2 : Int)), IntKind.wrap IntKind.i64 (Prod.snd s5 + (1 : Int))) h6 ∧
 μ4 (IntKind.wrap IntKind.i64 (Int.tdiv (Prod.fst s5) (2 : Int)), IntKind.wrap IntKind.i64 (Prod.snd s5 + (1 : Int))) h6 < μ4 s5 h6)
 ((2 : Int) ≠ (0 : Int) ∧ R (Value.int IntKind.i64 (Int.tmod (Prod.fst s5) (2 : Int))) h6)))
theorem C_ref03_Bit (k : Array Value) (i : Int) {h : Heap} {R : Value → Heap → Prop} (H : F_ref03_Bit k i h R) : CallsH Tryz.prog n_ref03_Bit [(.agg k), (.int .i64 i)].toArray h R :=
  fn_sound (A := A_ref03_Bit) (Eq.mp (by kernel_rfl : F_ref03_Bit k i h R = fnVc Go.Proofs.Tryz.prog A_ref03_Bit 110 [(.agg k), (.int .i64 i)] h R) H)

/- rolodex/rolodexref03.Formed -/
def A_ref03_Formed : Ann := { qs := [4, 5, 6, 7, 8, 9, 10, 11, 13, 14, 16, 17, 18, 19, 20, 21, 22, 23, 24, 25, 27, 37, 38, 41, 42, 58, 59, 60, 61, 62, 81, 86, 93, 94, 98, 106, 108, 109, 110, 112], loops := [(4, [(3, (.int .i64))])] }
def F_ref03_Formed (p : Array Value) (h : Heap) (R : Value → Heap → Prop) : Prop :=
 newBlk h (36 : Nat) p fun (b0 : Nat) (h1 : Heap) =>
 ∃ (n2 : Int),
 cell h1 (Addr.add (Addr.mk b0 (0 : Nat) none) (0 : Nat)) = some (Value.int IntKind.i64 n2) ∧
 br (decide (n2 < (0 : Int))) (R (Value.bool false) h1)
 (∃ (n3 : Int),
 cell h1 (Addr.add (Addr.mk b0 (0 : Nat) none) (0 : Nat)) = some (Value.int IntKind.i64 n3) ∧
 br (decide (n3 > (256 : Int))) (R (Value.bool false) h1)
 (∃ (n4 : Int),
 cell h1 (Addr.add (Addr.mk b0 (0 : Nat) none) (0 : Nat)) = some (Value.int IntKind.i64 n4) ∧
 ∃ (I5 : Int → Heap → Prop),
 ∃ (μ6 : Int → Heap → Nat),
 I5 n4 h1 ∧
 ∀ (n7 : Int) (h8 : Heap),
 I5 n7 h8 →
 br (decide (n7 < (256 : Int)))
 (∃ (cs9 : Array Value),
 row h8 (Addr.add (Addr.mk b0 (0 : Nat) none) (1 : Nat)) (32 : Nat) = some cs9 ∧
 CallsH Tryz.prog n_ref03_Bit #[Value.agg cs9, Value.int IntKind.i64 n7] h8 fun (v10 : Value) (h11 : Heap) =>
 Ext h8 h11 ∧
 ∃ (n12 : Int),
 v10 = Value.int IntKind.i64 n12 ∧
 br (n12 == (1 : Int)) (R (Value.bool false) h11)
 (I5 (IntKind.wrap IntKind.i64 (n7 + (1 : Int))) h11 ∧ μ6 (IntKind.wrap IntKind.i64 (n7 + (1 : Int))) h11 < μ6 n7 h8))
 (R (Value.bool true) h8)))
theorem C_ref03_Formed (p : Array Value) {h : Heap} {R : Value → Heap → Prop} (H : F_ref03_Formed p h R) : CallsH Tryz.prog n_ref03_Formed [(.agg p)].toArray h R :=
  fn_sound (A := A_ref03_Formed) (Eq.mp (by kernel_rfl : F_ref03_Formed p h R = fnVc Go.Proofs.Tryz.prog A_ref03_Formed 94 [(.agg p)] h R) H)

end Go.Proofs.YthlmiijlhiiccaaGreat
