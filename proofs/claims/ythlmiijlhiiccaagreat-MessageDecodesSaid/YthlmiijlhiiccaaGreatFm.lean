/- The formulas of some functions, and that each is what its code comes to. Written by a program of ours. -/
import Derived.Test.YthlmiijlhiiccaaGreatV
import Derived.Test.YthlmiijlhiiccaaGreatNm
import Derived.Test.YthlmiijlhiiccaaGreatProg
import Derived.KernelRfl
set_option linter.unusedVariables false
set_option maxRecDepth 100000
namespace Go.Proofs.YthlmiijlhiiccaaGreat
open Go Go.Vc Go.Proofs

/- rolodex/message.fields -/
def A_message_fields : Ann := { qs := [4, 5, 6, 7, 8, 9, 10, 11, 13, 14, 16, 17, 18, 19, 20, 21, 22, 23, 24, 25, 27, 37, 38, 41, 42, 58, 59, 60, 61, 62, 81, 86, 93, 94, 98, 106, 108, 109, 110, 112] }
def F_message_fields (kind : Int) (h : Heap) (R : Value → Heap → Prop) : Prop :=
 br (kind == (1 : Int))
 (newBlk h (62 : Nat) #[Value.int IntKind.i64 (0 : Int), Value.int IntKind.i64 (1 : Int), Value.int IntKind.i64 (2 : Int), Value.int IntKind.i64 (6 : Int), Value.int IntKind.i64 (7 : Int)]
 fun (b0 : Nat) (h1 : Heap) => R (Value.slice (some (Addr.mk b0 (0 : Nat) none)) (5 : Nat) (5 : Nat)) h1)
 (br (kind == (2 : Int))
 (newBlk h (62 : Nat) #[Value.int IntKind.i64 (0 : Int), Value.int IntKind.i64 (1 : Int), Value.int IntKind.i64 (2 : Int), Value.int IntKind.i64 (3 : Int), Value.int IntKind.i64 (5 : Int)]
 fun (b2 : Nat) (h3 : Heap) => R (Value.slice (some (Addr.mk b2 (0 : Nat) none)) (5 : Nat) (5 : Nat)) h3)
 (br (kind == (3 : Int))
 (newBlk h (62 : Nat)
 #[Value.int IntKind.i64 (0 : Int), Value.int IntKind.i64 (1 : Int), Value.int IntKind.i64 (2 : Int), Value.int IntKind.i64 (3 : Int), Value.int IntKind.i64 (4 : Int),
 Value.int IntKind.i64 (6 : Int)]
 fun (b4 : Nat) (h5 : Heap) => R (Value.slice (some (Addr.mk b4 (0 : Nat) none)) (6 : Nat) (6 : Nat)) h5)
 (br (kind == (4 : Int))
 (newBlk h (62 : Nat)
 #[Value.int IntKind.i64 (0 : Int), Value.int IntKind.i64 (1 : Int), Value.int IntKind.i64 (2 : Int), Value.int IntKind.i64 (3 : Int), Value.int IntKind.i64 (4 : Int),
 Value.int IntKind.i64 (5 : Int), Value.int IntKind.i64 (8 : Int), Value.int IntKind.i64 (9 : Int), Value.int IntKind.i64 (10 : Int), Value.int IntKind.i64 (11 : Int),
 Value.int IntKind.i64 (12 : Int), Value.int IntKind.i64 (13 : Int)]
 fun (b6 : Nat) (h7 : Heap) => R (Value.slice (some (Addr.mk b6 (0 : Nat) none)) (12 : Nat) (12 : Nat)) h7)
 (br (kind == (5 : Int))
 (newBlk h (62 : Nat) #[Value.int IntKind.i64 (0 : Int), Value.int IntKind.i64 (1 : Int), Value.int IntKind.i64 (8 : Int), Value.int IntKind.i64 (14 : Int), Value.int IntKind.i64 (15 : Int)]
 fun (b8 : Nat) (h9 : Heap) => R (Value.slice (some (Addr.mk b8 (0 : Nat) none)) (5 : Nat) (5 : Nat)) h9)
 (br (kind == (6 : Int))
 (newBlk h (62 : Nat) #[Value.int IntKind.i64 (0 : Int), Value.int IntKind.i64 (1 : Int), Value.int IntKind.i64 (3 : Int), Value.int IntKind.i64 (4 : Int)] fun (b10 : Nat) (h11 : Heap) =>
 R (Value.slice (some (Addr.mk b10 (0 : Nat) none)) (4 : Nat) (4 : Nat)) h11)
 (br (kind == (7 : Int))
 (newBlk h (62 : Nat) #[Value.int IntKind.i64 (0 : Int), Value.int IntKind.i64 (1 : Int)] fun (b12 : Nat) (h13 : Heap) =>
 R (Value.slice (some (Addr.mk b12 (0 : Nat) none)) (2 : Nat) (2 : Nat)) h13)
 (br (kind == (8 : Int))
 (newBlk h (62 : Nat)
 #[Value.int IntKind.i64 (0 : Int), Value.int IntKind.i64 (1 : Int), Value.int IntKind.i64 (8 : Int), Value.int IntKind.i64 (15 : Int), Value.int IntKind.i64 (16 : Int)]
 fun (b14 : Nat) (h15 : Heap) => R (Value.slice (some (Addr.mk b14 (0 : Nat) none)) (5 : Nat) (5 : Nat)) h15)
 (R (Value.slice none (0 : Nat) (0 : Nat)) h))))))))
theorem C_message_fields (kind : Int) {h : Heap} {R : Value → Heap → Prop} (H : F_message_fields kind h R) : CallsH Tryz.prog n_message_fields [(.int .i64 kind)].toArray h R :=
  fn_sound (A := A_message_fields) (Eq.mp (by kernel_rfl : F_message_fields kind h R = fnVc Go.Proofs.Tryz.prog A_message_fields 13 [(.int .i64 kind)] h R) H)

/- (rolodex/message.Message).stops -/
def A_message_Message_stops : Ann := { qs := [4, 5, 6, 7, 8, 9, 10, 11, 13, 14, 16, 17, 18, 19, 20, 21, 22, 23, 24, 25, 27, 37, 38, 41, 42, 58, 59, 60, 61, 62, 81, 86, 93, 94, 98, 106, 108, 109, 110, 112] }
def F_message_Message_stops (m : Array Value) (f : Int) (h : Heap) (R : Value → Heap → Prop) : Prop :=
 newBlk h (43 : Nat) m fun (b0 : Nat) (h1 : Heap) =>
 ∃ (n2 : Int),
 cell h1 (Addr.add (Addr.mk b0 (0 : Nat) none) (0 : Nat)) = some (Value.int IntKind.i64 n2) ∧
 br (n2 == (4 : Int))
 (br (f == (8 : Int)) (∃ (n3 : Int), cell h1 (Addr.add (Addr.mk b0 (0 : Nat) none) (6 : Nat)) = some (Value.int IntKind.i64 n3) ∧ R (Value.bool (n3 != (0 : Int))) h1) (R (Value.bool false) h1))
 (R (Value.bool false) h1)
theorem C_message_Message_stops (m : Array Value) (f : Int) {h : Heap} {R : Value → Heap → Prop} (H : F_message_Message_stops m f h R) : CallsH Tryz.prog n_message_Message_stops [(.agg m), (.int .i64 f)].toArray h R :=
  fn_sound (A := A_message_Message_stops) (Eq.mp (by kernel_rfl : F_message_Message_stops m f h R = fnVc Go.Proofs.Tryz.prog A_message_Message_stops 14 [(.agg m), (.int .i64 f)] h R) H)

/- (*rolodex/message.encoder).spoil -/
def A_message_encoder_spoil : Ann := { qs := [4, 5, 6, 7, 8, 9, 10, 11, 13, 14, 16, 17, 18, 19, 20, 21, 22, 23, 24, 25, 27, 37, 38, 41, 42, 58, 59, 60, 61, 62, 81, 86, 93, 94, 98, 106, 108, 109, 110, 112] }
def F_message_encoder_spoil (x : Option Addr) (h : Heap) (R : Value → Heap → Prop) : Prop :=
 deref x fun (a0 : Addr) => CallsH Tryz.prog n_wire_Writer_U8 #[Value.pointer (some a0), Value.int IntKind.i64 (-1 : Int)] h fun (v1 : Value) (h2 : Heap) => v1 = Value.tuple #[] ∧ R (Value.tuple #[]) h2
theorem C_message_encoder_spoil (x : Option Addr) {h : Heap} {R : Value → Heap → Prop} (H : F_message_encoder_spoil x h R) : CallsH Tryz.prog n_message_encoder_spoil [(.pointer x)].toArray h R :=
  fn_sound (A := A_message_encoder_spoil) (Eq.mp (by kernel_rfl : F_message_encoder_spoil x h R = fnVc Go.Proofs.Tryz.prog A_message_encoder_spoil 95 [(.pointer x)] h R) H)

/- (*rolodex/message.encoder).number -/
def A_message_encoder_number : Ann := { qs := [4, 5, 6, 7, 8, 9, 10, 11, 13, 14, 16, 17, 18, 19, 20, 21, 22, 23, 24, 25, 27, 37, 38, 41, 42, 58, 59, 60, 61, 62, 81, 86, 93, 94, 98, 106, 108, 109, 110, 112] }
def F_message_encoder_number (x : Option Addr) (n : Int) (h : Heap) (R : Value → Heap → Prop) : Prop :=
 br (decide (n < (0 : Int))) (CallsH Tryz.prog n_message_encoder_spoil #[Value.pointer x] h fun (v0 : Value) (h1 : Heap) => v0 = Value.tuple #[] ∧ R (Value.tuple #[]) h1)
 (br (decide (n ≥ (2147483648 : Int))) (CallsH Tryz.prog n_message_encoder_spoil #[Value.pointer x] h fun (v2 : Value) (h3 : Heap) => v2 = Value.tuple #[] ∧ R (Value.tuple #[]) h3)
 (deref x fun (a4 : Addr) =>
 CallsH Tryz.prog n_wire_Writer_U32 #[Value.pointer (some a4), Value.int IntKind.u32 (IntKind.wrap IntKind.u32 n)] h fun (v5 : Value) (h6 : Heap) => v5 = Value.tuple #[] ∧ R (Value.tuple #[]) h6))
theorem C_message_encoder_number (x : Option Addr) (n : Int) {h : Heap} {R : Value → Heap → Prop} (H : F_message_encoder_number x n h R) : CallsH Tryz.prog n_message_encoder_number [(.pointer x), (.int .i64 n)].toArray h R :=
  fn_sound (A := A_message_encoder_number) (Eq.mp (by kernel_rfl : F_message_encoder_number x n h R = fnVc Go.Proofs.Tryz.prog A_message_encoder_number 67 [(.pointer x), (.int .i64 n)] h R) H)

/- (*rolodex/message.encoder).error -/
def A_message_encoder_error : Ann := { qs := [4, 5, 6, 7, 8, 9, 10, 11, 13, 14, 16, 17, 18, 19, 20, 21, 22, 23, 24, 25, 27, 37, 38, 41, 42, 58, 59, 60, 61, 62, 81, 86, 93, 94, 98, 106, 108, 109, 110, 112] }
def F_message_encoder_error (x : Option Addr) (e : Int) (h : Heap) (R : Value → Heap → Prop) : Prop :=
 br (decide (e < (0 : Int))) (CallsH Tryz.prog n_message_encoder_spoil #[Value.pointer x] h fun (v0 : Value) (h1 : Heap) => v0 = Value.tuple #[] ∧ R (Value.tuple #[]) h1)
 (br (decide (e > (13 : Int))) (CallsH Tryz.prog n_message_encoder_spoil #[Value.pointer x] h fun (v2 : Value) (h3 : Heap) => v2 = Value.tuple #[] ∧ R (Value.tuple #[]) h3)
 (deref x fun (a4 : Addr) => CallsH Tryz.prog n_wire_Writer_U8 #[Value.pointer (some a4), Value.int IntKind.i64 e] h fun (v5 : Value) (h6 : Heap) => v5 = Value.tuple #[] ∧ R (Value.tuple #[]) h6))
theorem C_message_encoder_error (x : Option Addr) (e : Int) {h : Heap} {R : Value → Heap → Prop} (H : F_message_encoder_error x e h R) : CallsH Tryz.prog n_message_encoder_error [(.pointer x), (.int .i64 e)].toArray h R :=
  fn_sound (A := A_message_encoder_error) (Eq.mp (by kernel_rfl : F_message_encoder_error x e h R = fnVc Go.Proofs.Tryz.prog A_message_encoder_error 68 [(.pointer x), (.int .i64 e)] h R) H)

/- (*rolodex/message.encoder).text -/
def A_message_encoder_text : Ann := { qs := [4, 5, 6, 7, 8, 9, 10, 11, 13, 14, 16, 17, 18, 19, 20, 21, 22, 23, 24, 25, 27, 37, 38, 41, 42, 58, 59, 60, 61, 62, 81, 86, 93, 94, 98, 106, 108, 109, 110, 112] }
def F_message_encoder_text (x : Option Addr) (b : Option Addr) (b_l : Nat) (b_c : Nat) (h : Heap) (R : Value → Heap → Prop) : Prop :=
 br (decide ((↑b_l : Int) > (64 : Int))) (CallsH Tryz.prog n_message_encoder_spoil #[Value.pointer x] h fun (v0 : Value) (h1 : Heap) => v0 = Value.tuple #[] ∧ R (Value.tuple #[]) h1)
 (deref x fun (a2 : Addr) => CallsH Tryz.prog n_wire_Writer_String #[Value.pointer (some a2), Value.slice b b_l b_c] h fun (v3 : Value) (h4 : Heap) => v3 = Value.tuple #[] ∧ R (Value.tuple #[]) h4)
theorem C_message_encoder_text (x : Option Addr) (b : Option Addr) (b_l : Nat) (b_c : Nat) {h : Heap} {R : Value → Heap → Prop} (H : F_message_encoder_text x b b_l b_c h R) : CallsH Tryz.prog n_message_encoder_text [(.pointer x), (.slice b b_l b_c)].toArray h R :=
  fn_sound (A := A_message_encoder_text) (Eq.mp (by kernel_rfl : F_message_encoder_text x b b_l b_c h R = fnVc Go.Proofs.Tryz.prog A_message_encoder_text 69 [(.pointer x), (.slice b b_l b_c)] h R) H)

/- (*rolodex/message.encoder).hash -/
def A_message_encoder_hash : Ann := { qs := [4, 5, 6, 7, 8, 9, 10, 11, 13, 14, 16, 17, 18, 19, 20, 21, 22, 23, 24, 25, 27, 37, 38, 41, 42, 58, 59, 60, 61, 62, 81, 86, 93, 94, 98, 106, 108, 109, 110, 112], plans := [(1, (.take 0 (.take 1 (.take 2 (.take 3 (.alt 4 .done .stop))))))] }
def F_message_encoder_hash (x : Option Addr) (h_ : Array Value) (h : Heap) (R : Value → Heap → Prop) : Prop :=
 newBlk h (26 : Nat) h_ fun (b0 : Nat) (h1 : Heap) =>
 deref x fun (a2 : Addr) =>
 sliceP (1 : Nat) (some (Addr.mk b0 (0 : Nat) none)) (0 : Int) (↑(32 : Nat) : Int) (↑(32 : Nat) : Int) (32 : Nat) fun (p3 : Option Addr) (l4 c5 : Nat) =>
 CallsH Tryz.prog n_wire_Writer_Plain #[Value.pointer (some a2), Value.slice p3 l4 c5] h1 fun (v6 : Value) (h7 : Heap) => v6 = Value.tuple #[] ∧ R (Value.tuple #[]) h7
theorem C_message_encoder_hash (x : Option Addr) (h_ : Array Value) {h : Heap} {R : Value → Heap → Prop} (H : F_message_encoder_hash x h_ h R) : CallsH Tryz.prog n_message_encoder_hash [(.pointer x), (.agg h_)].toArray h R :=
  fn_sound (A := A_message_encoder_hash) (Eq.mp (by kernel_rfl : F_message_encoder_hash x h_ h R = fnVc Go.Proofs.Tryz.prog A_message_encoder_hash 72 [(.pointer x), (.agg h_)] h R) H)

/- (*rolodex/message.encoder).trail -/
def A_message_encoder_trail : Ann := { qs := [4, 5, 6, 7, 8, 9, 10, 11, 13, 14, 16, 17, 18, 19, 20, 21, 22, 23, 24, 25, 27, 37, 38, 41, 42, 58, 59, 60, 61, 62, 81, 86, 93, 94, 98, 106, 108, 109, 110, 112] }
def F_message_encoder_trail (x : Option Addr) (t : Array Value) (h : Heap) (R : Value → Heap → Prop) : Prop :=
 newBlk h (33 : Nat) t fun (b0 : Nat) (h1 : Heap) =>
 ∃ (p2 : Option Addr),
 ∃ (l3 : Nat),
 ∃ (c4 : Nat),
 cell h1 (Addr.add (Addr.mk b0 (0 : Nat) none) (0 : Nat)) = some (Value.slice p2 l3 c4) ∧
 CallsH Tryz.prog n_message_list_api_Hash #[Value.pointer x, Value.slice p2 l3 c4, Value.func (Fn.func (72 : Nat)) #[Value.pointer x] #[]] h1 fun (v5 : Value) (h6 : Heap) =>
 v5 = Value.tuple #[] ∧
 ∃ (p7 : Option Addr),
 ∃ (l8 : Nat),
 ∃ (c9 : Nat),
 cell h6 (Addr.add (Addr.mk b0 (0 : Nat) none) (1 : Nat)) = some (Value.slice p7 l8 c9) ∧
 CallsH Tryz.prog n_message_list_api_Hash #[Value.pointer x, Value.slice p7 l8 c9, Value.func (Fn.func (72 : Nat)) #[Value.pointer x] #[]] h6 fun (v10 : Value) (h11 : Heap) =>
 v10 = Value.tuple #[] ∧ R (Value.tuple #[]) h11
theorem C_message_encoder_trail (x : Option Addr) (t : Array Value) {h : Heap} {R : Value → Heap → Prop} (H : F_message_encoder_trail x t h R) : CallsH Tryz.prog n_message_encoder_trail [(.pointer x), (.agg t)].toArray h R :=
  fn_sound (A := A_message_encoder_trail) (Eq.mp (by kernel_rfl : F_message_encoder_trail x t h R = fnVc Go.Proofs.Tryz.prog A_message_encoder_trail 71 [(.pointer x), (.agg t)] h R) H)

/- (*rolodex/message.encoder).prefix -/
def A_message_encoder_prefix : Ann := { qs := [4, 5, 6, 7, 8, 9, 10, 11, 13, 14, 16, 17, 18, 19, 20, 21, 22, 23, 24, 25, 27, 37, 38, 41, 42, 58, 59, 60, 61, 62, 81, 86, 93, 94, 98, 106, 108, 109, 110, 112], plans := [(3, (.take 0 (.take 1 (.take 2 (.take 3 (.take 4 (.alt 5 .done .stop)))))))] }
def F_message_encoder_prefix (x : Option Addr) (p : Array Value) (h : Heap) (R : Value → Heap → Prop) : Prop :=
 newBlk h (36 : Nat) p fun (b0 : Nat) (h1 : Heap) =>
 ∃ (cs2 : Array Value),
 row h1 (Addr.mk b0 (0 : Nat) none) (33 : Nat) = some cs2 ∧
 CallsH Tryz.prog n_prefix_Formed #[Value.agg cs2] h1 fun (v3 : Value) (h4 : Heap) =>
 Ext h1 h4 ∧
 ∃ (t5 : Bool),
 v3 = Value.bool t5 ∧
 br (!t5) (CallsH Tryz.prog n_message_encoder_spoil #[Value.pointer x] h4 fun (v6 : Value) (h7 : Heap) => v6 = Value.tuple #[] ∧ R (Value.tuple #[]) h7)
 (deref x fun (a8 : Addr) =>
 ∃ (n9 : Int),
 cell h4 (Addr.add (Addr.mk b0 (0 : Nat) none) (0 : Nat)) = some (Value.int IntKind.i64 n9) ∧
 CallsH Tryz.prog n_wire_Writer_U16 #[Value.pointer (some a8), Value.int IntKind.i64 n9] h4 fun (v10 : Value) (h11 : Heap) =>
 v10 = Value.tuple #[] ∧
 ∃ (cs12 : Array Value),
 row h11 (Addr.add (Addr.mk b0 (0 : Nat) none) (1 : Nat)) (32 : Nat) = some cs12 ∧
 CallsH Tryz.prog n_message_encoder_hash #[Value.pointer x, Value.agg cs12] h11 fun (v13 : Value) (h14 : Heap) => v13 = Value.tuple #[] ∧ R (Value.tuple #[]) h14)
theorem C_message_encoder_prefix (x : Option Addr) (p : Array Value) {h : Heap} {R : Value → Heap → Prop} (H : F_message_encoder_prefix x p h R) : CallsH Tryz.prog n_message_encoder_prefix [(.pointer x), (.agg p)].toArray h R :=
  fn_sound (A := A_message_encoder_prefix) (Eq.mp (by kernel_rfl : F_message_encoder_prefix x p h R = fnVc Go.Proofs.Tryz.prog A_message_encoder_prefix 102 [(.pointer x), (.agg p)] h R) H)

/- (*rolodex/message.encoder).step -/
def A_message_encoder_step : Ann := { qs := [4, 5, 6, 7, 8, 9, 10, 11, 13, 14, 16, 17, 18, 19, 20, 21, 22, 23, 24, 25, 27, 37, 38, 41, 42, 58, 59, 60, 61, 62, 81, 86, 93, 94, 98, 106, 108, 109, 110, 112] }
def F_message_encoder_step (x : Option Addr) (s : Array Value) (h : Heap) (R : Value → Heap → Prop) : Prop :=
 newBlk h (126 : Nat) s fun (b0 : Nat) (h1 : Heap) =>
 ∃ (cs2 : Array Value),
 row h1 (Addr.add (Addr.mk b0 (0 : Nat) none) (0 : Nat)) (33 : Nat) = some cs2 ∧
 CallsH Tryz.prog n_message_encoder_prefix #[Value.pointer x, Value.agg cs2] h1 fun (v3 : Value) (h4 : Heap) =>
 v3 = Value.tuple #[] ∧
 ∃ (cs5 : Array Value),
 row h4 (Addr.add (Addr.mk b0 (0 : Nat) none) (33 : Nat)) (32 : Nat) = some cs5 ∧
 CallsH Tryz.prog n_message_encoder_hash #[Value.pointer x, Value.agg cs5] h4 fun (v6 : Value) (h7 : Heap) => v6 = Value.tuple #[] ∧ R (Value.tuple #[]) h7
theorem C_message_encoder_step (x : Option Addr) (s : Array Value) {h : Heap} {R : Value → Heap → Prop} (H : F_message_encoder_step x s h R) : CallsH Tryz.prog n_message_encoder_step [(.pointer x), (.agg s)].toArray h R :=
  fn_sound (A := A_message_encoder_step) (Eq.mp (by kernel_rfl : F_message_encoder_step x s h R = fnVc Go.Proofs.Tryz.prog A_message_encoder_step 101 [(.pointer x), (.agg s)] h R) H)

/- (*rolodex/message.encoder).proof -/
def A_message_encoder_proof : Ann := { qs := [4, 5, 6, 7, 8, 9, 10, 11, 13, 14, 16, 17, 18, 19, 20, 21, 22, 23, 24, 25, 27, 37, 38, 41, 42, 58, 59, 60, 61, 62, 81, 86, 93, 94, 98, 106, 108, 109, 110, 112] }
def F_message_encoder_proof (x : Option Addr) (p : Array Value) (h : Heap) (R : Value → Heap → Prop) : Prop :=
 newBlk h (38 : Nat) p fun (b0 : Nat) (h1 : Heap) =>
 ∃ (p2 : Option Addr),
 ∃ (l3 : Nat),
 ∃ (c4 : Nat),
 cell h1 (Addr.add (Addr.mk b0 (0 : Nat) none) (0 : Nat)) = some (Value.slice p2 l3 c4) ∧
 CallsH Tryz.prog n_message_list_proof_Step #[Value.pointer x, Value.slice p2 l3 c4, Value.func (Fn.func (101 : Nat)) #[Value.pointer x] #[]] h1 fun (v5 : Value) (h6 : Heap) =>
 v5 = Value.tuple #[] ∧
 ∃ (n7 : Int),
 cell h6 (Addr.add (Addr.mk b0 (0 : Nat) none) (1 : Nat)) = some (Value.int IntKind.i64 n7) ∧
 br (n7 == (0 : Int))
 (deref x fun (a8 : Addr) =>
 CallsH Tryz.prog n_wire_Writer_U8 #[Value.pointer (some a8), Value.int IntKind.i64 (0 : Int)] h6 fun (v9 : Value) (h10 : Heap) => v9 = Value.tuple #[] ∧ R (Value.tuple #[]) h10)
 (br (n7 == (1 : Int))
 (deref x fun (a11 : Addr) =>
 CallsH Tryz.prog n_wire_Writer_U8 #[Value.pointer (some a11), Value.int IntKind.i64 (1 : Int)] h6 fun (v12 : Value) (h13 : Heap) =>
 v12 = Value.tuple #[] ∧
 ∃ (cs14 : Array Value),
 row h13 (Addr.add (Addr.mk b0 (0 : Nat) none) (2 : Nat)) (32 : Nat) = some cs14 ∧
 CallsH Tryz.prog n_message_encoder_hash #[Value.pointer x, Value.agg cs14] h13 fun (v15 : Value) (h16 : Heap) =>
 v15 = Value.tuple #[] ∧
 ∃ (cs17 : Array Value),
 row h16 (Addr.add (Addr.mk b0 (0 : Nat) none) (34 : Nat)) (32 : Nat) = some cs17 ∧
 CallsH Tryz.prog n_message_encoder_hash #[Value.pointer x, Value.agg cs17] h16 fun (v18 : Value) (h19 : Heap) => v18 = Value.tuple #[] ∧ R (Value.tuple #[]) h19)
 (br (n7 == (2 : Int))
 (deref x fun (a20 : Addr) =>
 CallsH Tryz.prog n_wire_Writer_U8 #[Value.pointer (some a20), Value.int IntKind.i64 (2 : Int)] h6 fun (v21 : Value) (h22 : Heap) =>
 v21 = Value.tuple #[] ∧
 ∃ (cs23 : Array Value),
 row h22 (Addr.add (Addr.mk b0 (0 : Nat) none) (66 : Nat)) (33 : Nat) = some cs23 ∧
 CallsH Tryz.prog n_message_encoder_prefix #[Value.pointer x, Value.agg cs23] h22 fun (v24 : Value) (h25 : Heap) =>
 v24 = Value.tuple #[] ∧
 ∃ (cs26 : Array Value),
 row h25 (Addr.add (Addr.mk b0 (0 : Nat) none) (99 : Nat)) (32 : Nat) = some cs26 ∧
 CallsH Tryz.prog n_message_encoder_hash #[Value.pointer x, Value.agg cs26] h25 fun (v27 : Value) (h28 : Heap) =>
 v27 = Value.tuple #[] ∧
 ∃ (cs29 : Array Value),
 row h28 (Addr.add (Addr.mk b0 (0 : Nat) none) (131 : Nat)) (32 : Nat) = some cs29 ∧
 CallsH Tryz.prog n_message_encoder_hash #[Value.pointer x, Value.agg cs29] h28 fun (v30 : Value) (h31 : Heap) => v30 = Value.tuple #[] ∧ R (Value.tuple #[]) h31)
 (CallsH Tryz.prog n_message_encoder_spoil #[Value.pointer x] h6 fun (v32 : Value) (h33 : Heap) => v32 = Value.tuple #[] ∧ R (Value.tuple #[]) h33)))
theorem C_message_encoder_proof (x : Option Addr) (p : Array Value) {h : Heap} {R : Value → Heap → Prop} (H : F_message_encoder_proof x p h R) : CallsH Tryz.prog n_message_encoder_proof [(.pointer x), (.agg p)].toArray h R :=
  fn_sound (A := A_message_encoder_proof) (Eq.mp (by kernel_rfl : F_message_encoder_proof x p h R = fnVc Go.Proofs.Tryz.prog A_message_encoder_proof 73 [(.pointer x), (.agg p)] h R) H)

/- (*rolodex/message.encoder).version -/
def A_message_encoder_version : Ann := { qs := [4, 5, 6, 7, 8, 9, 10, 11, 13, 14, 16, 17, 18, 19, 20, 21, 22, 23, 24, 25, 27, 37, 38, 41, 42, 58, 59, 60, 61, 62, 81, 86, 93, 94, 98, 106, 108, 109, 110, 112] }
def F_message_encoder_version (x : Option Addr) (v : Array Value) (h : Heap) (R : Value → Heap → Prop) : Prop :=
 newBlk h (70 : Nat) v fun (b0 : Nat) (h1 : Heap) =>
 ∃ (n2 : Int),
 cell h1 (Addr.add (Addr.mk b0 (0 : Nat) none) (0 : Nat)) = some (Value.int IntKind.i64 n2) ∧
 CallsH Tryz.prog n_message_encoder_number #[Value.pointer x, Value.int IntKind.i64 n2] h1 fun (v3 : Value) (h4 : Heap) =>
 v3 = Value.tuple #[] ∧
 ∃ (n5 : Int),
 cell h4 (Addr.add (Addr.mk b0 (0 : Nat) none) (1 : Nat)) = some (Value.int IntKind.i64 n5) ∧
 CallsH Tryz.prog n_message_encoder_number #[Value.pointer x, Value.int IntKind.i64 n5] h4 fun (v6 : Value) (h7 : Heap) =>
 v6 = Value.tuple #[] ∧
 ∃ (cs8 : Array Value),
 row h7 (Addr.add (Addr.mk b0 (0 : Nat) none) (2 : Nat)) (32 : Nat) = some cs8 ∧
 CallsH Tryz.prog n_message_encoder_hash #[Value.pointer x, Value.agg cs8] h7 fun (v9 : Value) (h10 : Heap) =>
 v9 = Value.tuple #[] ∧
 ∃ (cs11 : Array Value),
 row h10 (Addr.add (Addr.mk b0 (0 : Nat) none) (34 : Nat)) (32 : Nat) = some cs11 ∧
 CallsH Tryz.prog n_message_encoder_hash #[Value.pointer x, Value.agg cs11] h10 fun (v12 : Value) (h13 : Heap) =>
 v12 = Value.tuple #[] ∧
 ∃ (p14 : Option Addr),
 ∃ (l15 : Nat),
 ∃ (c16 : Nat),
 cell h13 (Addr.add (Addr.mk b0 (0 : Nat) none) (66 : Nat)) = some (Value.slice p14 l15 c16) ∧
 CallsH Tryz.prog n_message_encoder_text #[Value.pointer x, Value.slice p14 l15 c16] h13 fun (v17 : Value) (h18 : Heap) => v17 = Value.tuple #[] ∧ R (Value.tuple #[]) h18
theorem C_message_encoder_version (x : Option Addr) (v : Array Value) {h : Heap} {R : Value → Heap → Prop} (H : F_message_encoder_version x v h R) : CallsH Tryz.prog n_message_encoder_version [(.pointer x), (.agg v)].toArray h R :=
  fn_sound (A := A_message_encoder_version) (Eq.mp (by kernel_rfl : F_message_encoder_version x v h R = fnVc Go.Proofs.Tryz.prog A_message_encoder_version 75 [(.pointer x), (.agg v)] h R) H)

/- (*rolodex/message.encoder).row -/
def A_message_encoder_row : Ann := { qs := [4, 5, 6, 7, 8, 9, 10, 11, 13, 14, 16, 17, 18, 19, 20, 21, 22, 23, 24, 25, 27, 37, 38, 41, 42, 58, 59, 60, 61, 62, 81, 86, 93, 94, 98, 106, 108, 109, 110, 112], plans := [(1, (.take 0 (.take 1 (.take 2 (.take 3 (.take 4 (.alt 5 .done .stop)))))))] }
def F_message_encoder_row (x : Option Addr) (r : Array Value) (h : Heap) (R : Value → Heap → Prop) : Prop :=
 newBlk h (74 : Nat) r fun (b0 : Nat) (h1 : Heap) =>
 deref x fun (a2 : Addr) =>
 ∃ (t3 : Bool),
 cell h1 (Addr.add (Addr.mk b0 (0 : Nat) none) (0 : Nat)) = some (Value.bool t3) ∧
 CallsH Tryz.prog n_wire_Writer_Flag #[Value.pointer (some a2), Value.bool t3] h1 fun (v4 : Value) (h5 : Heap) =>
 v4 = Value.tuple #[] ∧
 ∃ (t6 : Bool),
 cell h5 (Addr.add (Addr.mk b0 (0 : Nat) none) (0 : Nat)) = some (Value.bool t6) ∧
 br t6
 (∃ (cs7 : Array Value),
 row h5 (Addr.add (Addr.mk b0 (0 : Nat) none) (1 : Nat)) (32 : Nat) = some cs7 ∧
 CallsH Tryz.prog n_message_encoder_hash #[Value.pointer x, Value.agg cs7] h5 fun (v8 : Value) (h9 : Heap) =>
 v8 = Value.tuple #[] ∧
 ∃ (cs10 : Array Value),
 row h9 (Addr.add (Addr.mk b0 (0 : Nat) none) (33 : Nat)) (32 : Nat) = some cs10 ∧
 CallsH Tryz.prog n_message_encoder_hash #[Value.pointer x, Value.agg cs10] h9 fun (v11 : Value) (h12 : Heap) => v11 = Value.tuple #[] ∧ R (Value.tuple #[]) h12)
 (∃ (cs13 : Array Value),
 row h5 (Addr.add (Addr.mk b0 (0 : Nat) none) (65 : Nat)) (33 : Nat) = some cs13 ∧
 CallsH Tryz.prog n_message_encoder_prefix #[Value.pointer x, Value.agg cs13] h5 fun (v14 : Value) (h15 : Heap) =>
 v14 = Value.tuple #[] ∧
 ∃ (cs16 : Array Value),
 row h15 (Addr.add (Addr.mk b0 (0 : Nat) none) (98 : Nat)) (32 : Nat) = some cs16 ∧
 CallsH Tryz.prog n_message_encoder_hash #[Value.pointer x, Value.agg cs16] h15 fun (v17 : Value) (h18 : Heap) =>
 v17 = Value.tuple #[] ∧
 ∃ (cs19 : Array Value),
 row h18 (Addr.add (Addr.mk b0 (0 : Nat) none) (130 : Nat)) (32 : Nat) = some cs19 ∧
 CallsH Tryz.prog n_message_encoder_hash #[Value.pointer x, Value.agg cs19] h18 fun (v20 : Value) (h21 : Heap) => v20 = Value.tuple #[] ∧ R (Value.tuple #[]) h21)
theorem C_message_encoder_row (x : Option Addr) (r : Array Value) {h : Heap} {R : Value → Heap → Prop} (H : F_message_encoder_row x r h R) : CallsH Tryz.prog n_message_encoder_row [(.pointer x), (.agg r)].toArray h R :=
  fn_sound (A := A_message_encoder_row) (Eq.mp (by kernel_rfl : F_message_encoder_row x r h R = fnVc Go.Proofs.Tryz.prog A_message_encoder_row 77 [(.pointer x), (.agg r)] h R) H)

/- (*rolodex/message.encoder).news -/
def A_message_encoder_news : Ann := { qs := [4, 5, 6, 7, 8, 9, 10, 11, 13, 14, 16, 17, 18, 19, 20, 21, 22, 23, 24, 25, 27, 37, 38, 41, 42, 58, 59, 60, 61, 62, 81, 86, 93, 94, 98, 106, 108, 109, 110, 112] }
def F_message_encoder_news (x : Option Addr) (n : Array Value) (h : Heap) (R : Value → Heap → Prop) : Prop :=
 newBlk h (77 : Nat) n fun (b0 : Nat) (h1 : Heap) =>
 ∃ (p2 : Option Addr),
 ∃ (l3 : Nat),
 ∃ (c4 : Nat),
 cell h1 (Addr.add (Addr.mk b0 (0 : Nat) none) (0 : Nat)) = some (Value.slice p2 l3 c4) ∧
 CallsH Tryz.prog n_message_encoder_text #[Value.pointer x, Value.slice p2 l3 c4] h1 fun (v5 : Value) (h6 : Heap) =>
 v5 = Value.tuple #[] ∧
 ∃ (cs7 : Array Value),
 row h6 (Addr.add (Addr.mk b0 (0 : Nat) none) (1 : Nat)) (67 : Nat) = some cs7 ∧
 CallsH Tryz.prog n_message_encoder_version #[Value.pointer x, Value.agg cs7] h6 fun (v8 : Value) (h9 : Heap) => v8 = Value.tuple #[] ∧ R (Value.tuple #[]) h9
theorem C_message_encoder_news (x : Option Addr) (n : Array Value) {h : Heap} {R : Value → Heap → Prop} (H : F_message_encoder_news x n h R) : CallsH Tryz.prog n_message_encoder_news [(.pointer x), (.agg n)].toArray h R :=
  fn_sound (A := A_message_encoder_news) (Eq.mp (by kernel_rfl : F_message_encoder_news x n h R = fnVc Go.Proofs.Tryz.prog A_message_encoder_news 79 [(.pointer x), (.agg n)] h R) H)

/- (rolodex/head.Head).is -/
def A_head_Head_is : Ann := { qs := [4, 5, 6, 7, 8, 9, 10, 11, 13, 14, 16, 17, 18, 19, 20, 21, 22, 23, 24, 25, 27, 37, 38, 41, 42, 58, 59, 60, 61, 62, 81, 86, 93, 94, 98, 106, 108, 109, 110, 112] }
def F_head_Head_is (h_ : Array Value) (h : Heap) (R : Value → Heap → Prop) : Prop :=
 newBlk h (28 : Nat) h_ fun (b0 : Nat) (h1 : Heap) =>
 ∃ (n2 : Int),
 cell h1 (Addr.add (Addr.mk b0 (0 : Nat) none) (0 : Nat)) = some (Value.int IntKind.i64 n2) ∧
 br (decide (n2 ≥ (1 : Int)))
 (∃ (n3 : Int),
 cell h1 (Addr.add (Addr.mk b0 (0 : Nat) none) (0 : Nat)) = some (Value.int IntKind.i64 n3) ∧
 br (decide (n3 < (2147483648 : Int)))
 (∃ (n4 : Int),
 cell h1 (Addr.add (Addr.mk b0 (0 : Nat) none) (1 : Nat)) = some (Value.int IntKind.i64 n4) ∧
 br (decide (n4 ≥ (1 : Int)))
 (∃ (n5 : Int), cell h1 (Addr.add (Addr.mk b0 (0 : Nat) none) (1 : Nat)) = some (Value.int IntKind.i64 n5) ∧ R (Value.bool (decide (n5 < (2147483648 : Int)))) h1)
 (R (Value.bool false) h1))
 (R (Value.bool false) h1))
 (R (Value.bool false) h1)
theorem C_head_Head_is (h_ : Array Value) {h : Heap} {R : Value → Heap → Prop} (H : F_head_Head_is h_ h R) : CallsH Tryz.prog n_head_Head_is [(.agg h_)].toArray h R :=
  fn_sound (A := A_head_Head_is) (Eq.mp (by kernel_rfl : F_head_Head_is h_ h R = fnVc Go.Proofs.Tryz.prog A_head_Head_is 106 [(.agg h_)] h R) H)

/- rolodex/head.Encode -/
def A_head_Encode : Ann := { qs := [4, 5, 6, 7, 8, 9, 10, 11, 13, 14, 16, 17, 18, 19, 20, 21, 22, 23, 24, 25, 27, 37, 38, 41, 42, 58, 59, 60, 61, 62, 81, 86, 93, 94, 98, 106, 108, 109, 110, 112] }
def F_head_Encode (h_ : Array Value) (h : Heap) (R : Value → Heap → Prop) : Prop :=
 newBlk h (28 : Nat) h_ fun (b0 : Nat) (h1 : Heap) =>
 ∃ (cs2 : Array Value),
 row h1 (Addr.mk b0 (0 : Nat) none) (66 : Nat) = some cs2 ∧
 CallsH Tryz.prog n_head_Head_is #[Value.agg cs2] h1 fun (v3 : Value) (h4 : Heap) =>
 Ext h1 h4 ∧
 ∃ (t5 : Bool),
 v3 = Value.bool t5 ∧
 br (!t5) (R (Value.tuple #[Value.slice none (0 : Nat) (0 : Nat), Value.int IntKind.i64 (1 : Int)]) h4)
 (newBlk h4 (100 : Nat) #[Value.slice none (0 : Nat) (0 : Nat), Value.bool false] fun (b6 : Nat) (h7 : Heap) =>
 ∃ (n8 : Int),
 cell h7 (Addr.add (Addr.mk b0 (0 : Nat) none) (0 : Nat)) = some (Value.int IntKind.i64 n8) ∧
 CallsH Tryz.prog n_wire_Writer_U32 #[Value.pointer (some (Addr.mk b6 (0 : Nat) none)), Value.int IntKind.u32 (IntKind.wrap IntKind.u32 n8)] h7 fun (v9 : Value) (h10 : Heap) =>
 v9 = Value.tuple #[] ∧
 ∃ (n11 : Int),
 cell h10 (Addr.add (Addr.mk b0 (0 : Nat) none) (1 : Nat)) = some (Value.int IntKind.i64 n11) ∧
 CallsH Tryz.prog n_wire_Writer_U32 #[Value.pointer (some (Addr.mk b6 (0 : Nat) none)), Value.int IntKind.u32 (IntKind.wrap IntKind.u32 n11)] h10
 fun (v12 : Value) (h13 : Heap) =>
 v12 = Value.tuple #[] ∧
 sliceP (1 : Nat) (some (Addr.mk (Addr.block (Addr.mk b0 (0 : Nat) none)) (Addr.off (Addr.mk b0 (0 : Nat) none) + (2 : Nat)) none)) (0 : Int) (↑(32 : Nat) : Int)
 (↑(32 : Nat) : Int) (32 : Nat) fun (p14 : Option Addr) (l15 c16 : Nat) =>
 CallsH Tryz.prog n_wire_Writer_Plain #[Value.pointer (some (Addr.mk b6 (0 : Nat) none)), Value.slice p14 l15 c16] h13 fun (v17 : Value) (h18 : Heap) =>
 v17 = Value.tuple #[] ∧
 sliceP (1 : Nat) (some (Addr.mk (Addr.block (Addr.mk b0 (0 : Nat) none)) (Addr.off (Addr.mk b0 (0 : Nat) none) + (34 : Nat)) none)) (0 : Int)
 (↑(32 : Nat) : Int) (↑(32 : Nat) : Int) (32 : Nat) fun (p19 : Option Addr) (l20 c21 : Nat) =>
 CallsH Tryz.prog n_wire_Writer_Plain #[Value.pointer (some (Addr.mk b6 (0 : Nat) none)), Value.slice p19 l20 c21] h18 fun (v22 : Value) (h23 : Heap) =>
 v22 = Value.tuple #[] ∧
 CallsH Tryz.prog n_wire_Writer_Out #[Value.pointer (some (Addr.mk b6 (0 : Nat) none))] h23 fun (v24 : Value) (h25 : Heap) =>
 Ext h23 h25 ∧
 ∃ (p26 : Option Addr),
 ∃ (l27 : Nat),
 ∃ (c28 : Nat),
 ∃ (n29 : Int),
 v24 = Value.tuple #[Value.slice p26 l27 c28, Value.int IntKind.i64 n29] ∧
 R (Value.tuple #[Value.slice p26 l27 c28, Value.int IntKind.i64 n29]) h25)
theorem C_head_Encode (h_ : Array Value) {h : Heap} {R : Value → Heap → Prop} (H : F_head_Encode h_ h R) : CallsH Tryz.prog n_head_Encode [(.agg h_)].toArray h R :=
  fn_sound (A := A_head_Encode) (Eq.mp (by kernel_rfl : F_head_Encode h_ h R = fnVc Go.Proofs.Tryz.prog A_head_Encode 98 [(.agg h_)] h R) H)

/- rolodex/head.Put -/
def A_head_Put : Ann := { qs := [4, 5, 6, 7, 8, 9, 10, 11, 13, 14, 16, 17, 18, 19, 20, 21, 22, 23, 24, 25, 27, 37, 38, 41, 42, 58, 59, 60, 61, 62, 81, 86, 93, 94, 98, 106, 108, 109, 110, 112] }
def F_head_Put (w : Option Addr) (s : Array Value) (h : Heap) (R : Value → Heap → Prop) : Prop :=
 newBlk h (30 : Nat) s fun (b0 : Nat) (h1 : Heap) =>
 ∃ (cs2 : Array Value),
 row h1 (Addr.add (Addr.mk b0 (0 : Nat) none) (0 : Nat)) (66 : Nat) = some cs2 ∧
 CallsH Tryz.prog n_head_Encode #[Value.agg cs2] h1 fun (v3 : Value) (h4 : Heap) =>
 Ext h1 h4 ∧
 ∃ (p5 : Option Addr),
 ∃ (l6 : Nat),
 ∃ (c7 : Nat),
 ∃ (n8 : Int),
 v3 = Value.tuple #[Value.slice p5 l6 c7, Value.int IntKind.i64 n8] ∧
 br (n8 != (0 : Int))
 (CallsH Tryz.prog n_wire_Writer_U8 #[Value.pointer w, Value.int IntKind.i64 (-1 : Int)] h4 fun (v9 : Value) (h10 : Heap) => v9 = Value.tuple #[] ∧ R (Value.tuple #[]) h10)
 (CallsH Tryz.prog n_wire_Writer_Plain #[Value.pointer w, Value.slice p5 l6 c7] h4 fun (v11 : Value) (h12 : Heap) =>
 v11 = Value.tuple #[] ∧
 ∃ (p13 : Option Addr),
 ∃ (l14 : Nat),
 ∃ (c15 : Nat),
 cell h12 (Addr.add (Addr.mk b0 (0 : Nat) none) (66 : Nat)) = some (Value.slice p13 l14 c15) ∧
 CallsH Tryz.prog n_wire_Writer_String #[Value.pointer w, Value.slice p13 l14 c15] h12 fun (v16 : Value) (h17 : Heap) => v16 = Value.tuple #[] ∧ R (Value.tuple #[]) h17)
theorem C_head_Put (w : Option Addr) (s : Array Value) {h : Heap} {R : Value → Heap → Prop} (H : F_head_Put w s h R) : CallsH Tryz.prog n_head_Put [(.pointer w), (.agg s)].toArray h R :=
  fn_sound (A := A_head_Put) (Eq.mp (by kernel_rfl : F_head_Put w s h R = fnVc Go.Proofs.Tryz.prog A_head_Put 70 [(.pointer w), (.agg s)] h R) H)

/- rolodex/message.list[rolodex/api.Hash] -/
def A_message_list_api_Hash : Ann := { qs := [4, 5, 6, 7, 8, 9, 10, 11, 13, 14, 16, 17, 18, 19, 20, 21, 22, 23, 24, 25, 27, 37, 38, 41, 42, 58, 59, 60, 61, 62, 81, 86, 93, 94, 98, 106, 108, 109, 110, 112], loops := [(2, [(16, (.int .i64))])] }
def F_message_list_api_Hash (x : Option Addr) (l : Option Addr) (l_l : Nat) (l_c : Nat) (h : Heap) (R : Value → Heap → Prop) : Prop :=
 deref x fun (a0 : Addr) =>
 CallsH Tryz.prog n_wire_Writer_Count #[Value.pointer (some a0), Value.int IntKind.i64 (↑l_l : Int)] h fun (v1 : Value) (h2 : Heap) =>
 v1 = Value.tuple #[] ∧
 ∃ (I3 : Int → Heap → Prop),
 ∃ (μ4 : Int → Heap → Nat),
 I3 (0 : Int) h2 ∧
 ∀ (n5 : Int) (h6 : Heap),
 I3 n5 h6 →
 br (decide (n5 < (↑l_l : Int)))
 ((0 : Int) ≤ n5 ∧
 n5 < (↑l_l : Int) ∧
 deref l fun (a7 : Addr) =>
 ∃ (cs8 : Array Value),
 row h6 (Addr.add a7 (Int.toNat n5 * (32 : Nat))) (32 : Nat) = some cs8 ∧
 newBlk h6 (26 : Nat) (List.toArray (List.replicate (32 : Nat) (Value.int IntKind.u8 (0 : Int)))) fun (b9 : Nat) (h10 : Heap) =>
 storeP (some (32 : Nat)) h10 (Addr.mk b9 (0 : Nat) none) (Value.agg cs8) fun (h11 : Heap) =>
 ∃ (cs12 : Array Value),
 row h11 (Addr.mk b9 (0 : Nat) none) (32 : Nat) = some cs12 ∧
 CallsH Tryz.prog n_message_encoder_hash #[Value.pointer x, Value.agg cs12] h11 fun (v13 : Value) (h14 : Heap) =>
 v13 = Value.tuple #[] ∧ I3 (IntKind.wrap IntKind.i64 (n5 + (1 : Int))) h14 ∧ μ4 (IntKind.wrap IntKind.i64 (n5 + (1 : Int))) h14 < μ4 n5 h6)
 (R (Value.tuple #[]) h6)
theorem C_message_list_api_Hash (x : Option Addr) (l : Option Addr) (l_l : Nat) (l_c : Nat) {h : Heap} {R : Value → Heap → Prop} (H : F_message_list_api_Hash x l l_l l_c h R) : CallsH Tryz.prog n_message_list_api_Hash [(.pointer x), (.slice l l_l l_c), (.func (.func 72) #[.pointer x] #[])].toArray h R :=
  fn_sound (A := A_message_list_api_Hash) (Eq.mp (by kernel_rfl : F_message_list_api_Hash x l l_l l_c h R = fnVc Go.Proofs.Tryz.prog A_message_list_api_Hash 80 [(.pointer x), (.slice l l_l l_c), (.func (.func 72) #[.pointer x] #[])] h R) H)

/- rolodex/message.list[rolodex/proof.Step] -/
def A_message_list_proof_Step : Ann := { qs := [4, 5, 6, 7, 8, 9, 10, 11, 13, 14, 16, 17, 18, 19, 20, 21, 22, 23, 24, 25, 27, 37, 38, 41, 42, 58, 59, 60, 61, 62, 81, 86, 93, 94, 98, 106, 108, 109, 110, 112], loops := [(2, [(16, (.int .i64))])] }
def F_message_list_proof_Step (x : Option Addr) (l : Option Addr) (l_l : Nat) (l_c : Nat) (h : Heap) (R : Value → Heap → Prop) : Prop :=
 deref x fun (a0 : Addr) =>
 CallsH Tryz.prog n_wire_Writer_Count #[Value.pointer (some a0), Value.int IntKind.i64 (↑l_l : Int)] h fun (v1 : Value) (h2 : Heap) =>
 v1 = Value.tuple #[] ∧
 ∃ (I3 : Int → Heap → Prop),
 ∃ (μ4 : Int → Heap → Nat),
 I3 (0 : Int) h2 ∧
 ∀ (n5 : Int) (h6 : Heap),
 I3 n5 h6 →
 br (decide (n5 < (↑l_l : Int)))
 ((0 : Int) ≤ n5 ∧
 n5 < (↑l_l : Int) ∧
 deref l fun (a7 : Addr) =>
 ∃ (cs8 : Array Value),
 row h6 (Addr.add a7 (Int.toNat n5 * (65 : Nat))) (65 : Nat) = some cs8 ∧
 newBlk h6 (126 : Nat) (List.toArray (Value.int IntKind.i64 (0 : Int) :: List.replicate (64 : Nat) (Value.int IntKind.u8 (0 : Int)))) fun (b9 : Nat) (h10 : Heap) =>
 storeP (some (65 : Nat)) h10 (Addr.mk b9 (0 : Nat) none) (Value.agg cs8) fun (h11 : Heap) =>
 ∃ (cs12 : Array Value),
 row h11 (Addr.mk b9 (0 : Nat) none) (65 : Nat) = some cs12 ∧
 CallsH Tryz.prog n_message_encoder_step #[Value.pointer x, Value.agg cs12] h11 fun (v13 : Value) (h14 : Heap) =>
 v13 = Value.tuple #[] ∧ I3 (IntKind.wrap IntKind.i64 (n5 + (1 : Int))) h14 ∧ μ4 (IntKind.wrap IntKind.i64 (n5 + (1 : Int))) h14 < μ4 n5 h6)
 (R (Value.tuple #[]) h6)
theorem C_message_list_proof_Step (x : Option Addr) (l : Option Addr) (l_l : Nat) (l_c : Nat) {h : Heap} {R : Value → Heap → Prop} (H : F_message_list_proof_Step x l l_l l_c h R) : CallsH Tryz.prog n_message_list_proof_Step [(.pointer x), (.slice l l_l l_c), (.func (.func 101) #[.pointer x] #[])].toArray h R :=
  fn_sound (A := A_message_list_proof_Step) (Eq.mp (by kernel_rfl : F_message_list_proof_Step x l l_l l_c h R = fnVc Go.Proofs.Tryz.prog A_message_list_proof_Step 100 [(.pointer x), (.slice l l_l l_c), (.func (.func 101) #[.pointer x] #[])] h R) H)

/- rolodex/message.list[rolodex/chain.Version] -/
def A_message_list_chain_Version : Ann := { qs := [4, 5, 6, 7, 8, 9, 10, 11, 13, 14, 16, 17, 18, 19, 20, 21, 22, 23, 24, 25, 27, 37, 38, 41, 42, 58, 59, 60, 61, 62, 81, 86, 93, 94, 98, 106, 108, 109, 110, 112], loops := [(2, [(16, (.int .i64))])] }
def F_message_list_chain_Version (x : Option Addr) (l : Option Addr) (l_l : Nat) (l_c : Nat) (h : Heap) (R : Value → Heap → Prop) : Prop :=
 deref x fun (a0 : Addr) =>
 CallsH Tryz.prog n_wire_Writer_Count #[Value.pointer (some a0), Value.int IntKind.i64 (↑l_l : Int)] h fun (v1 : Value) (h2 : Heap) =>
 v1 = Value.tuple #[] ∧
 ∃ (I3 : Int → Heap → Prop),
 ∃ (μ4 : Int → Heap → Nat),
 I3 (0 : Int) h2 ∧
 ∀ (n5 : Int) (h6 : Heap),
 I3 n5 h6 →
 br (decide (n5 < (↑l_l : Int)))
 ((0 : Int) ≤ n5 ∧
 n5 < (↑l_l : Int) ∧
 deref l fun (a7 : Addr) =>
 ∃ (cs8 : Array Value),
 row h6 (Addr.add a7 (Int.toNat n5 * (67 : Nat))) (67 : Nat) = some cs8 ∧
 newBlk h6 (70 : Nat)
 (List.toArray
 (Value.int IntKind.i64 (0 : Int) ::
 Value.int IntKind.i64 (0 : Int) :: (List.replicate (64 : Nat) (Value.int IntKind.u8 (0 : Int)) ++ [Value.slice none (0 : Nat) (0 : Nat)])))
 fun (b9 : Nat) (h10 : Heap) =>
 storeP (some (67 : Nat)) h10 (Addr.mk b9 (0 : Nat) none) (Value.agg cs8) fun (h11 : Heap) =>
 ∃ (cs12 : Array Value),
 row h11 (Addr.mk b9 (0 : Nat) none) (67 : Nat) = some cs12 ∧
 CallsH Tryz.prog n_message_encoder_version #[Value.pointer x, Value.agg cs12] h11 fun (v13 : Value) (h14 : Heap) =>
 v13 = Value.tuple #[] ∧ I3 (IntKind.wrap IntKind.i64 (n5 + (1 : Int))) h14 ∧ μ4 (IntKind.wrap IntKind.i64 (n5 + (1 : Int))) h14 < μ4 n5 h6)
 (R (Value.tuple #[]) h6)
theorem C_message_list_chain_Version (x : Option Addr) (l : Option Addr) (l_l : Nat) (l_c : Nat) {h : Heap} {R : Value → Heap → Prop} (H : F_message_list_chain_Version x l l_l l_c h R) : CallsH Tryz.prog n_message_list_chain_Version [(.pointer x), (.slice l l_l l_c), (.func (.func 75) #[.pointer x] #[])].toArray h R :=
  fn_sound (A := A_message_list_chain_Version) (Eq.mp (by kernel_rfl : F_message_list_chain_Version x l l_l l_c h R = fnVc Go.Proofs.Tryz.prog A_message_list_chain_Version 74 [(.pointer x), (.slice l l_l l_c), (.func (.func 75) #[.pointer x] #[])] h R) H)

/- rolodex/message.list[rolodex/delta.Row] -/
def A_message_list_delta_Row : Ann := { qs := [4, 5, 6, 7, 8, 9, 10, 11, 13, 14, 16, 17, 18, 19, 20, 21, 22, 23, 24, 25, 27, 37, 38, 41, 42, 58, 59, 60, 61, 62, 81, 86, 93, 94, 98, 106, 108, 109, 110, 112], loops := [(2, [(16, (.int .i64))])] }
def F_message_list_delta_Row (x : Option Addr) (l : Option Addr) (l_l : Nat) (l_c : Nat) (h : Heap) (R : Value → Heap → Prop) : Prop :=
 deref x fun (a0 : Addr) =>
 CallsH Tryz.prog n_wire_Writer_Count #[Value.pointer (some a0), Value.int IntKind.i64 (↑l_l : Int)] h fun (v1 : Value) (h2 : Heap) =>
 v1 = Value.tuple #[] ∧
 ∃ (I3 : Int → Heap → Prop),
 ∃ (μ4 : Int → Heap → Nat),
 I3 (0 : Int) h2 ∧
 ∀ (n5 : Int) (h6 : Heap),
 I3 n5 h6 →
 br (decide (n5 < (↑l_l : Int)))
 ((0 : Int) ≤ n5 ∧
 n5 < (↑l_l : Int) ∧
 deref l fun (a7 : Addr) =>
 ∃ (cs8 : Array Value),
 row h6 (Addr.add a7 (Int.toNat n5 * (162 : Nat))) (162 : Nat) = some cs8 ∧
 newBlk h6 (74 : Nat)
 (List.toArray
 (Value.bool false ::
 (List.replicate (64 : Nat) (Value.int IntKind.u8 (0 : Int)) ++ Value.int IntKind.i64 (0 : Int) :: List.replicate (96 : Nat) (Value.int IntKind.u8 (0 : Int)))))
 fun (b9 : Nat) (h10 : Heap) =>
 storeP (some (162 : Nat)) h10 (Addr.mk b9 (0 : Nat) none) (Value.agg cs8) fun (h11 : Heap) =>
 ∃ (cs12 : Array Value),
 row h11 (Addr.mk b9 (0 : Nat) none) (162 : Nat) = some cs12 ∧
 CallsH Tryz.prog n_message_encoder_row #[Value.pointer x, Value.agg cs12] h11 fun (v13 : Value) (h14 : Heap) =>
 v13 = Value.tuple #[] ∧ I3 (IntKind.wrap IntKind.i64 (n5 + (1 : Int))) h14 ∧ μ4 (IntKind.wrap IntKind.i64 (n5 + (1 : Int))) h14 < μ4 n5 h6)
 (R (Value.tuple #[]) h6)
theorem C_message_list_delta_Row (x : Option Addr) (l : Option Addr) (l_l : Nat) (l_c : Nat) {h : Heap} {R : Value → Heap → Prop} (H : F_message_list_delta_Row x l l_l l_c h R) : CallsH Tryz.prog n_message_list_delta_Row [(.pointer x), (.slice l l_l l_c), (.func (.func 77) #[.pointer x] #[])].toArray h R :=
  fn_sound (A := A_message_list_delta_Row) (Eq.mp (by kernel_rfl : F_message_list_delta_Row x l l_l l_c h R = fnVc Go.Proofs.Tryz.prog A_message_list_delta_Row 76 [(.pointer x), (.slice l l_l l_c), (.func (.func 77) #[.pointer x] #[])] h R) H)

/- rolodex/message.list[rolodex/message.News] -/
def A_message_list_message_News : Ann := { qs := [4, 5, 6, 7, 8, 9, 10, 11, 13, 14, 16, 17, 18, 19, 20, 21, 22, 23, 24, 25, 27, 37, 38, 41, 42, 58, 59, 60, 61, 62, 81, 86, 93, 94, 98, 106, 108, 109, 110, 112], loops := [(2, [(16, (.int .i64))])] }
def F_message_list_message_News (x : Option Addr) (l : Option Addr) (l_l : Nat) (l_c : Nat) (h : Heap) (R : Value → Heap → Prop) : Prop :=
 deref x fun (a0 : Addr) =>
 CallsH Tryz.prog n_wire_Writer_Count #[Value.pointer (some a0), Value.int IntKind.i64 (↑l_l : Int)] h fun (v1 : Value) (h2 : Heap) =>
 v1 = Value.tuple #[] ∧
 ∃ (I3 : Int → Heap → Prop),
 ∃ (μ4 : Int → Heap → Nat),
 I3 (0 : Int) h2 ∧
 ∀ (n5 : Int) (h6 : Heap),
 I3 n5 h6 →
 br (decide (n5 < (↑l_l : Int)))
 ((0 : Int) ≤ n5 ∧
 n5 < (↑l_l : Int) ∧
 deref l fun (a7 : Addr) =>
 ∃ (cs8 : Array Value),
 row h6 (Addr.add a7 (Int.toNat n5 * (68 : Nat))) (68 : Nat) = some cs8 ∧
 newBlk h6 (77 : Nat)
 (List.toArray
 (Value.slice none (0 : Nat) (0 : Nat) ::
 Value.int IntKind.i64 (0 : Int) ::
 Value.int IntKind.i64 (0 : Int) :: (List.replicate (64 : Nat) (Value.int IntKind.u8 (0 : Int)) ++ [Value.slice none (0 : Nat) (0 : Nat)])))
 fun (b9 : Nat) (h10 : Heap) =>
 storeP (some (68 : Nat)) h10 (Addr.mk b9 (0 : Nat) none) (Value.agg cs8) fun (h11 : Heap) =>
 ∃ (cs12 : Array Value),
 row h11 (Addr.mk b9 (0 : Nat) none) (68 : Nat) = some cs12 ∧
 CallsH Tryz.prog n_message_encoder_news #[Value.pointer x, Value.agg cs12] h11 fun (v13 : Value) (h14 : Heap) =>
 v13 = Value.tuple #[] ∧ I3 (IntKind.wrap IntKind.i64 (n5 + (1 : Int))) h14 ∧ μ4 (IntKind.wrap IntKind.i64 (n5 + (1 : Int))) h14 < μ4 n5 h6)
 (R (Value.tuple #[]) h6)
theorem C_message_list_message_News (x : Option Addr) (l : Option Addr) (l_l : Nat) (l_c : Nat) {h : Heap} {R : Value → Heap → Prop} (H : F_message_list_message_News x l l_l l_c h R) : CallsH Tryz.prog n_message_list_message_News [(.pointer x), (.slice l l_l l_c), (.func (.func 79) #[.pointer x] #[])].toArray h R :=
  fn_sound (A := A_message_list_message_News) (Eq.mp (by kernel_rfl : F_message_list_message_News x l l_l l_c h R = fnVc Go.Proofs.Tryz.prog A_message_list_message_News 78 [(.pointer x), (.slice l l_l l_c), (.func (.func 79) #[.pointer x] #[])] h R) H)

/- (*rolodex/message.encoder).field -/
def A_message_encoder_field : Ann := { qs := [4, 5, 6, 7, 8, 9, 10, 11, 13, 14, 16, 17, 18, 19, 20, 21, 22, 23, 24, 25, 27, 37, 38, 41, 42, 58, 59, 60, 61, 62, 81, 86, 93, 94, 98, 106, 108, 109, 110, 112], plans := [(19, (.take 0 (.take 1 (.take 2 (.take 3 (.take 4 (.alt 5 .done .stop)))))))] }
def F_message_encoder_field (x : Option Addr) (m : Array Value) (f : Int) (h : Heap) (R : Value → Heap → Prop) : Prop :=
 newBlk h (43 : Nat) m fun (b0 : Nat) (h1 : Heap) =>
 br (f == (0 : Int))
 (∃ (n2 : Int),
 cell h1 (Addr.add (Addr.mk b0 (0 : Nat) none) (1 : Nat)) = some (Value.int IntKind.i64 n2) ∧
 CallsH Tryz.prog n_message_encoder_number #[Value.pointer x, Value.int IntKind.i64 n2] h1 fun (v3 : Value) (h4 : Heap) => v3 = Value.tuple #[] ∧ R (Value.tuple #[]) h4)
 (br (f == (1 : Int))
 (∃ (n5 : Int),
 cell h1 (Addr.add (Addr.mk b0 (0 : Nat) none) (2 : Nat)) = some (Value.int IntKind.i64 n5) ∧
 CallsH Tryz.prog n_message_encoder_number #[Value.pointer x, Value.int IntKind.i64 n5] h1 fun (v6 : Value) (h7 : Heap) => v6 = Value.tuple #[] ∧ R (Value.tuple #[]) h7)
 (br (f == (2 : Int))
 (∃ (n8 : Int),
 cell h1 (Addr.add (Addr.mk b0 (0 : Nat) none) (3 : Nat)) = some (Value.int IntKind.i64 n8) ∧
 CallsH Tryz.prog n_message_encoder_number #[Value.pointer x, Value.int IntKind.i64 n8] h1 fun (v9 : Value) (h10 : Heap) => v9 = Value.tuple #[] ∧ R (Value.tuple #[]) h10)
 (br (f == (3 : Int))
 (∃ (n11 : Int),
 cell h1 (Addr.add (Addr.mk b0 (0 : Nat) none) (4 : Nat)) = some (Value.int IntKind.i64 n11) ∧
 CallsH Tryz.prog n_message_encoder_number #[Value.pointer x, Value.int IntKind.i64 n11] h1 fun (v12 : Value) (h13 : Heap) => v12 = Value.tuple #[] ∧ R (Value.tuple #[]) h13)
 (br (f == (4 : Int))
 (∃ (n14 : Int),
 cell h1 (Addr.add (Addr.mk b0 (0 : Nat) none) (5 : Nat)) = some (Value.int IntKind.i64 n14) ∧
 CallsH Tryz.prog n_message_encoder_number #[Value.pointer x, Value.int IntKind.i64 n14] h1 fun (v15 : Value) (h16 : Heap) => v15 = Value.tuple #[] ∧ R (Value.tuple #[]) h16)
 (br (f == (5 : Int))
 (∃ (n17 : Int),
 cell h1 (Addr.add (Addr.mk b0 (0 : Nat) none) (6 : Nat)) = some (Value.int IntKind.i64 n17) ∧
 CallsH Tryz.prog n_message_encoder_error #[Value.pointer x, Value.int IntKind.i64 n17] h1 fun (v18 : Value) (h19 : Heap) => v18 = Value.tuple #[] ∧ R (Value.tuple #[]) h19)
 (br (f == (6 : Int))
 (∃ (p20 : Option Addr),
 ∃ (l21 : Nat),
 ∃ (c22 : Nat),
 cell h1 (Addr.add (Addr.mk b0 (0 : Nat) none) (7 : Nat)) = some (Value.slice p20 l21 c22) ∧
 CallsH Tryz.prog n_message_encoder_text #[Value.pointer x, Value.slice p20 l21 c22] h1 fun (v23 : Value) (h24 : Heap) => v23 = Value.tuple #[] ∧ R (Value.tuple #[]) h24)
 (br (f == (7 : Int))
 (∃ (p25 : Option Addr),
 ∃ (l26 : Nat),
 ∃ (c27 : Nat),
 cell h1 (Addr.add (Addr.mk b0 (0 : Nat) none) (8 : Nat)) = some (Value.slice p25 l26 c27) ∧
 CallsH Tryz.prog n_message_encoder_text #[Value.pointer x, Value.slice p25 l26 c27] h1 fun (v28 : Value) (h29 : Heap) => v28 = Value.tuple #[] ∧ R (Value.tuple #[]) h29)
 (br (f == (8 : Int))
 (deref x fun (a30 : Addr) =>
 ∃ (cs31 : Array Value),
 row h1 (Addr.add (Addr.mk b0 (0 : Nat) none) (9 : Nat)) (67 : Nat) = some cs31 ∧
 CallsH Tryz.prog n_head_Put #[Value.pointer (some a30), Value.agg cs31] h1 fun (v32 : Value) (h33 : Heap) => v32 = Value.tuple #[] ∧ R (Value.tuple #[]) h33)
 (br (f == (9 : Int))
 (∃ (cs34 : Array Value),
 row h1 (Addr.add (Addr.mk b0 (0 : Nat) none) (76 : Nat)) (2 : Nat) = some cs34 ∧
 CallsH Tryz.prog n_message_encoder_trail #[Value.pointer x, Value.agg cs34] h1 fun (v35 : Value) (h36 : Heap) => v35 = Value.tuple #[] ∧ R (Value.tuple #[]) h36)
 (br (f == (10 : Int))
 (∃ (cs37 : Array Value),
 row h1 (Addr.add (Addr.mk b0 (0 : Nat) none) (78 : Nat)) (2 : Nat) = some cs37 ∧
 CallsH Tryz.prog n_message_encoder_trail #[Value.pointer x, Value.agg cs37] h1 fun (v38 : Value) (h39 : Heap) => v38 = Value.tuple #[] ∧ R (Value.tuple #[]) h39)
 (br (f == (11 : Int))
 (∃ (cs40 : Array Value),
 row h1 (Addr.add (Addr.mk b0 (0 : Nat) none) (80 : Nat)) (32 : Nat) = some cs40 ∧
 CallsH Tryz.prog n_message_encoder_hash #[Value.pointer x, Value.agg cs40] h1 fun (v41 : Value) (h42 : Heap) => v41 = Value.tuple #[] ∧ R (Value.tuple #[]) h42)
 (br (f == (12 : Int))
 (∃ (cs43 : Array Value),
 row h1 (Addr.add (Addr.mk b0 (0 : Nat) none) (112 : Nat)) (163 : Nat) = some cs43 ∧
 CallsH Tryz.prog n_message_encoder_proof #[Value.pointer x, Value.agg cs43] h1 fun (v44 : Value) (h45 : Heap) => v44 = Value.tuple #[] ∧ R (Value.tuple #[]) h45)
 (br (f == (13 : Int))
 (∃ (p46 : Option Addr),
 ∃ (l47 : Nat),
 ∃ (c48 : Nat),
 cell h1 (Addr.add (Addr.mk b0 (0 : Nat) none) (275 : Nat)) = some (Value.slice p46 l47 c48) ∧
 CallsH Tryz.prog n_message_list_chain_Version #[Value.pointer x, Value.slice p46 l47 c48, Value.func (Fn.func (75 : Nat)) #[Value.pointer x] #[]] h1
 fun (v49 : Value) (h50 : Heap) => v49 = Value.tuple #[] ∧ R (Value.tuple #[]) h50)
 (br (f == (14 : Int))
 (∃ (p51 : Option Addr),
 ∃ (l52 : Nat),
 ∃ (c53 : Nat),
 cell h1 (Addr.add (Addr.mk b0 (0 : Nat) none) (276 : Nat)) = some (Value.slice p51 l52 c53) ∧
 CallsH Tryz.prog n_message_list_delta_Row #[Value.pointer x, Value.slice p51 l52 c53, Value.func (Fn.func (77 : Nat)) #[Value.pointer x] #[]] h1
 fun (v54 : Value) (h55 : Heap) => v54 = Value.tuple #[] ∧ R (Value.tuple #[]) h55)
 (br (f == (15 : Int))
 (∃ (p56 : Option Addr),
 ∃ (l57 : Nat),
 ∃ (c58 : Nat),
 cell h1 (Addr.add (Addr.mk b0 (0 : Nat) none) (277 : Nat)) = some (Value.slice p56 l57 c58) ∧
 CallsH Tryz.prog n_message_list_message_News #[Value.pointer x, Value.slice p56 l57 c58, Value.func (Fn.func (79 : Nat)) #[Value.pointer x] #[]] h1
 fun (v59 : Value) (h60 : Heap) => v59 = Value.tuple #[] ∧ R (Value.tuple #[]) h60)
 (br (f == (16 : Int))
 (∃ (p61 : Option Addr),
 ∃ (l62 : Nat),
 ∃ (c63 : Nat),
 cell h1 (Addr.add (Addr.mk b0 (0 : Nat) none) (278 : Nat)) = some (Value.slice p61 l62 c63) ∧
 CallsH Tryz.prog n_message_list_api_Hash #[Value.pointer x, Value.slice p61 l62 c63, Value.func (Fn.func (72 : Nat)) #[Value.pointer x] #[]] h1
 fun (v64 : Value) (h65 : Heap) => v64 = Value.tuple #[] ∧ R (Value.tuple #[]) h65)
 (R (Value.tuple #[]) h1)))))))))))))))))
theorem C_message_encoder_field (x : Option Addr) (m : Array Value) (f : Int) {h : Heap} {R : Value → Heap → Prop} (H : F_message_encoder_field x m f h R) : CallsH Tryz.prog n_message_encoder_field [(.pointer x), (.agg m), (.int .i64 f)].toArray h R :=
  fn_sound (A := A_message_encoder_field) (Eq.mp (by kernel_rfl : F_message_encoder_field x m f h R = fnVc Go.Proofs.Tryz.prog A_message_encoder_field 40 [(.pointer x), (.agg m), (.int .i64 f)] h R) H)

/- rolodex/message.Encode -/
def A_message_Encode : Ann := { qs := [4, 5, 6, 7, 8, 9, 10, 11, 13, 14, 16, 17, 18, 19, 20, 21, 22, 23, 24, 25, 27, 37, 38, 41, 42, 58, 59, 60, 61, 62, 81, 86, 93, 94, 98, 106, 108, 109, 110, 112], loops := [(7, [(25, (.int .i64))])], plans := [(5, (.take 0 (.take 1 (.take 2 (.take 3 (.take 4 (.alt 5 .done .stop)))))))] }
def F_message_Encode (m : Array Value) (h : Heap) (R : Value → Heap → Prop) : Prop :=
 newBlk h (43 : Nat) m fun (b0 : Nat) (h1 : Heap) =>
 ∃ (n2 : Int),
 cell h1 (Addr.add (Addr.mk b0 (0 : Nat) none) (0 : Nat)) = some (Value.int IntKind.i64 n2) ∧
 CallsH Tryz.prog n_message_fields #[Value.int IntKind.i64 n2] h1 fun (v3 : Value) (h4 : Heap) =>
 Ext h1 h4 ∧
 ∃ (p5 : Option Addr),
 ∃ (l6 : Nat),
 ∃ (c7 : Nat),
 v3 = Value.slice p5 l6 c7 ∧
 br (Option.isNone p5) (R (Value.tuple #[Value.slice none (0 : Nat) (0 : Nat), Value.int IntKind.i64 (1 : Int)]) h4)
 (newBlk h4 (102 : Nat) #[Value.slice none (0 : Nat) (0 : Nat), Value.bool false] fun (b8 : Nat) (h9 : Heap) =>
 ∃ (n10 : Int),
 cell h9 (Addr.add (Addr.mk b0 (0 : Nat) none) (0 : Nat)) = some (Value.int IntKind.i64 n10) ∧
 CallsH Tryz.prog n_wire_Writer_U8 #[Value.pointer (some (Addr.mk b8 (0 : Nat) none)), Value.int IntKind.i64 n10] h9 fun (v11 : Value) (h12 : Heap) =>
 v11 = Value.tuple #[] ∧
 ∃ (I13 : Int → Heap → Prop),
 ∃ (μ14 : Int → Heap → Nat),
 I13 (0 : Int) h12 ∧
 ∀ (n15 : Int) (h16 : Heap),
 I13 n15 h16 →
 br (decide (n15 < (↑l6 : Int)))
 ((0 : Int) ≤ n15 ∧
 n15 < (↑l6 : Int) ∧
 deref p5 fun (a17 : Addr) =>
 ∃ (n18 : Int),
 cell h16 (Addr.add a17 (Int.toNat n15 * (1 : Nat))) = some (Value.int IntKind.i64 n18) ∧
 ∃ (cs19 : Array Value),
 row h16 (Addr.mk b0 (0 : Nat) none) (279 : Nat) = some cs19 ∧
 CallsH Tryz.prog n_message_Message_stops #[Value.agg cs19, Value.int IntKind.i64 n18] h16 fun (v20 : Value) (h21 : Heap) =>
 Ext h16 h21 ∧
 ∃ (t22 : Bool),
 v20 = Value.bool t22 ∧
 br t22
 (CallsH Tryz.prog n_wire_Writer_Out #[Value.pointer (some (Addr.mk b8 (0 : Nat) none))] h21 fun (v23 : Value) (h24 : Heap) =>
 Ext h21 h24 ∧
 ∃ (p25 : Option Addr),
 ∃ (l26 : Nat),
 ∃ (c27 : Nat),
 ∃ (n28 : Int),
 v23 = Value.tuple #[Value.slice p25 l26 c27, Value.int IntKind.i64 n28] ∧
 br (n28 != (0 : Int)) (R (Value.tuple #[Value.slice none (0 : Nat) (0 : Nat), Value.int IntKind.i64 (1 : Int)]) h24)
 (R (Value.tuple #[Value.slice p25 l26 c27, Value.int IntKind.i64 (0 : Int)]) h24))
 (∃ (cs29 : Array Value),
 row h21 (Addr.mk b0 (0 : Nat) none) (279 : Nat) = some cs29 ∧
 CallsH Tryz.prog n_message_encoder_field #[Value.pointer (some (Addr.mk b8 (0 : Nat) none)), Value.agg cs29, Value.int IntKind.i64 n18] h21
 fun (v30 : Value) (h31 : Heap) =>
 v30 = Value.tuple #[] ∧
 I13 (IntKind.wrap IntKind.i64 (n15 + (1 : Int))) h31 ∧ μ14 (IntKind.wrap IntKind.i64 (n15 + (1 : Int))) h31 < μ14 n15 h16))
 (CallsH Tryz.prog n_wire_Writer_Out #[Value.pointer (some (Addr.mk b8 (0 : Nat) none))] h16 fun (v32 : Value) (h33 : Heap) =>
 Ext h16 h33 ∧
 ∃ (p34 : Option Addr),
 ∃ (l35 : Nat),
 ∃ (c36 : Nat),
 ∃ (n37 : Int),
 v32 = Value.tuple #[Value.slice p34 l35 c36, Value.int IntKind.i64 n37] ∧
 br (n37 != (0 : Int)) (R (Value.tuple #[Value.slice none (0 : Nat) (0 : Nat), Value.int IntKind.i64 (1 : Int)]) h33)
 (R (Value.tuple #[Value.slice p34 l35 c36, Value.int IntKind.i64 (0 : Int)]) h33)))
theorem C_message_Encode (m : Array Value) {h : Heap} {R : Value → Heap → Prop} (H : F_message_Encode m h R) : CallsH Tryz.prog n_message_Encode [(.agg m)].toArray h R :=
  fn_sound (A := A_message_Encode) (Eq.mp (by kernel_rfl : F_message_Encode m h R = fnVc Go.Proofs.Tryz.prog A_message_Encode 10 [(.agg m)] h R) H)

end Go.Proofs.YthlmiijlhiiccaaGreat
