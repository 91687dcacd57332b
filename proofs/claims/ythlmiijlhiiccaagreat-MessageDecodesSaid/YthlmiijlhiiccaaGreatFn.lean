/- The formulas of some functions, and that each is what its code comes to. Written by a program of ours. -/
import Derived.Test.YthlmiijlhiiccaaGreatV
import Derived.Test.YthlmiijlhiiccaaGreatNm
import Derived.Test.YthlmiijlhiiccaaGreatProg
import Derived.KernelRfl
set_option linter.unusedVariables false
set_option maxRecDepth 100000
namespace Go.Proofs.YthlmiijlhiiccaaGreat
open Go Go.Vc Go.Proofs

/- (*rolodex/message.decoder).fail -/
def A_message_decoder_fail : Ann := { qs := [4, 5, 6, 7, 8, 9, 10, 11, 13, 14, 16, 17, 18, 19, 20, 21, 22, 23, 24, 25, 27, 37, 38, 41, 42, 58, 59, 60, 61, 62, 81, 86, 93, 94, 98, 106, 108, 109, 110, 112] }
def F_message_decoder_fail (x : Option Addr) (h : Heap) (R : Value → Heap → Prop) : Prop :=
 deref x fun (a0 : Addr) =>
 ∃ (p1 : Option Addr),
 cell h (Addr.add a0 (0 : Nat)) = some (Value.pointer p1) ∧
 CallsH Tryz.prog n_wire_Reader_Plain #[Value.pointer p1, Value.int IntKind.i64 (-1 : Int)] h fun (v2 : Value) (h3 : Heap) =>
 ∃ (p4 : Option Addr), ∃ (l5 : Nat), ∃ (c6 : Nat), v2 = Value.slice p4 l5 c6 ∧ R (Value.tuple #[]) h3
theorem C_message_decoder_fail (x : Option Addr) {h : Heap} {R : Value → Heap → Prop} (H : F_message_decoder_fail x h R) : CallsH Tryz.prog n_message_decoder_fail [(.pointer x)].toArray h R :=
  fn_sound (A := A_message_decoder_fail) (Eq.mp (by kernel_rfl : F_message_decoder_fail x h R = fnVc Go.Proofs.Tryz.prog A_message_decoder_fail 84 [(.pointer x)] h R) H)

/- (*rolodex/message.decoder).number -/
def A_message_decoder_number : Ann := { qs := [4, 5, 6, 7, 8, 9, 10, 11, 13, 14, 16, 17, 18, 19, 20, 21, 22, 23, 24, 25, 27, 37, 38, 41, 42, 58, 59, 60, 61, 62, 81, 86, 93, 94, 98, 106, 108, 109, 110, 112] }
def F_message_decoder_number (x : Option Addr) (h : Heap) (R : Value → Heap → Prop) : Prop :=
 deref x fun (a0 : Addr) =>
 ∃ (p1 : Option Addr),
 cell h (Addr.add a0 (0 : Nat)) = some (Value.pointer p1) ∧
 CallsH Tryz.prog n_wire_Reader_U32 #[Value.pointer p1] h fun (v2 : Value) (h3 : Heap) =>
 ∃ (n4 : Int),
 v2 = Value.int IntKind.u32 n4 ∧
 br (decide (n4 ≥ (2147483648 : Int))) (CallsH Tryz.prog n_message_decoder_fail #[Value.pointer x] h3 fun (v5 : Value) (h6 : Heap) => v5 = Value.tuple #[] ∧ R (Value.int IntKind.i64 (0 : Int)) h6)
 (R (Value.int IntKind.i64 (IntKind.wrap IntKind.i64 n4)) h3)
theorem C_message_decoder_number (x : Option Addr) {h : Heap} {R : Value → Heap → Prop} (H : F_message_decoder_number x h R) : CallsH Tryz.prog n_message_decoder_number [(.pointer x)].toArray h R :=
  fn_sound (A := A_message_decoder_number) (Eq.mp (by kernel_rfl : F_message_decoder_number x h R = fnVc Go.Proofs.Tryz.prog A_message_decoder_number 44 [(.pointer x)] h R) H)

/- (*rolodex/message.decoder).error -/
def A_message_decoder_error : Ann := { qs := [4, 5, 6, 7, 8, 9, 10, 11, 13, 14, 16, 17, 18, 19, 20, 21, 22, 23, 24, 25, 27, 37, 38, 41, 42, 58, 59, 60, 61, 62, 81, 86, 93, 94, 98, 106, 108, 109, 110, 112] }
def F_message_decoder_error (x : Option Addr) (h : Heap) (R : Value → Heap → Prop) : Prop :=
 deref x fun (a0 : Addr) =>
 ∃ (p1 : Option Addr),
 cell h (Addr.add a0 (0 : Nat)) = some (Value.pointer p1) ∧
 CallsH Tryz.prog n_wire_Reader_U8 #[Value.pointer p1] h fun (v2 : Value) (h3 : Heap) =>
 ∃ (n4 : Int),
 v2 = Value.int IntKind.i64 n4 ∧
 br (decide (n4 > (13 : Int))) (CallsH Tryz.prog n_message_decoder_fail #[Value.pointer x] h3 fun (v5 : Value) (h6 : Heap) => v5 = Value.tuple #[] ∧ R (Value.int IntKind.i64 (0 : Int)) h6)
 (R (Value.int IntKind.i64 n4) h3)
theorem C_message_decoder_error (x : Option Addr) {h : Heap} {R : Value → Heap → Prop} (H : F_message_decoder_error x h R) : CallsH Tryz.prog n_message_decoder_error [(.pointer x)].toArray h R :=
  fn_sound (A := A_message_decoder_error) (Eq.mp (by kernel_rfl : F_message_decoder_error x h R = fnVc Go.Proofs.Tryz.prog A_message_decoder_error 45 [(.pointer x)] h R) H)

/- (*rolodex/message.decoder).text -/
def A_message_decoder_text : Ann := { qs := [4, 5, 6, 7, 8, 9, 10, 11, 13, 14, 16, 17, 18, 19, 20, 21, 22, 23, 24, 25, 27, 37, 38, 41, 42, 58, 59, 60, 61, 62, 81, 86, 93, 94, 98, 106, 108, 109, 110, 112] }
def F_message_decoder_text (x : Option Addr) (h : Heap) (R : Value → Heap → Prop) : Prop :=
 deref x fun (a0 : Addr) =>
 ∃ (p1 : Option Addr),
 cell h (Addr.add a0 (0 : Nat)) = some (Value.pointer p1) ∧
 CallsH Tryz.prog n_wire_Reader_String #[Value.pointer p1, Value.int IntKind.i64 (64 : Int)] h fun (v2 : Value) (h3 : Heap) =>
 ∃ (p4 : Option Addr), ∃ (l5 : Nat), ∃ (c6 : Nat), v2 = Value.slice p4 l5 c6 ∧ R (Value.slice p4 l5 c6) h3
theorem C_message_decoder_text (x : Option Addr) {h : Heap} {R : Value → Heap → Prop} (H : F_message_decoder_text x h R) : CallsH Tryz.prog n_message_decoder_text [(.pointer x)].toArray h R :=
  fn_sound (A := A_message_decoder_text) (Eq.mp (by kernel_rfl : F_message_decoder_text x h R = fnVc Go.Proofs.Tryz.prog A_message_decoder_text 46 [(.pointer x)] h R) H)

/- (*rolodex/message.decoder).hash -/
def A_message_decoder_hash : Ann := { qs := [4, 5, 6, 7, 8, 9, 10, 11, 13, 14, 16, 17, 18, 19, 20, 21, 22, 23, 24, 25, 27, 37, 38, 41, 42, 58, 59, 60, 61, 62, 81, 86, 93, 94, 98, 106, 108, 109, 110, 112], plans := [(2, (.take 0 (.take 1 (.take 2 (.take 3 (.take 4 (.alt 5 (.alt 6 .done .stop) .stop)))))))] }
def F_message_decoder_hash (x : Option Addr) (h : Heap) (R : Value → Heap → Prop) : Prop :=
 newBlk h (26 : Nat) (List.toArray (List.replicate (32 : Nat) (Value.int IntKind.u8 (0 : Int)))) fun (b0 : Nat) (h1 : Heap) =>
 newBlk h1 (26 : Nat) (List.toArray (List.replicate (32 : Nat) (Value.int IntKind.u8 (0 : Int)))) fun (b2 : Nat) (h3 : Heap) =>
 sliceP (1 : Nat) (some (Addr.mk b2 (0 : Nat) none)) (0 : Int) (↑(32 : Nat) : Int) (↑(32 : Nat) : Int) (32 : Nat) fun (p4 : Option Addr) (l5 c6 : Nat) =>
 deref x fun (a7 : Addr) =>
 ∃ (p8 : Option Addr),
 cell h3 (Addr.add a7 (0 : Nat)) = some (Value.pointer p8) ∧
 CallsH Tryz.prog n_wire_Reader_Plain #[Value.pointer p8, Value.int IntKind.i64 (32 : Int)] h3 fun (v9 : Value) (h10 : Heap) =>
 ∃ (p11 : Option Addr),
 ∃ (l12 : Nat),
 ∃ (c13 : Nat),
 v9 = Value.slice p11 l12 c13 ∧
 copyP (1 : Nat) p4 l5 p11 l12 h10 fun (n14 : Int) (h15 : Heap) =>
 ∃ (cs16 : Array Value),
 row h15 (Addr.mk b2 (0 : Nat) none) (32 : Nat) = some cs16 ∧
 storeP (some (32 : Nat)) h15 (Addr.mk b0 (0 : Nat) none) (Value.agg cs16) fun (h17 : Heap) =>
 ∃ (cs18 : Array Value), row h17 (Addr.mk b0 (0 : Nat) none) (32 : Nat) = some cs18 ∧ R (Value.agg cs18) h17
theorem C_message_decoder_hash (x : Option Addr) {h : Heap} {R : Value → Heap → Prop} (H : F_message_decoder_hash x h R) : CallsH Tryz.prog n_message_decoder_hash [(.pointer x)].toArray h R :=
  fn_sound (A := A_message_decoder_hash) (Eq.mp (by kernel_rfl : F_message_decoder_hash x h R = fnVc Go.Proofs.Tryz.prog A_message_decoder_hash 49 [(.pointer x)] h R) H)

/- (*rolodex/message.decoder).trail -/
def A_message_decoder_trail : Ann := { qs := [4, 5, 6, 7, 8, 9, 10, 11, 13, 14, 16, 17, 18, 19, 20, 21, 22, 23, 24, 25, 27, 37, 38, 41, 42, 58, 59, 60, 61, 62, 81, 86, 93, 94, 98, 106, 108, 109, 110, 112] }
def F_message_decoder_trail (x : Option Addr) (h : Heap) (R : Value → Heap → Prop) : Prop :=
 newBlk h (33 : Nat) #[Value.slice none (0 : Nat) (0 : Nat), Value.slice none (0 : Nat) (0 : Nat)] fun (b0 : Nat) (h1 : Heap) =>
 CallsH Tryz.prog n_message_items_api_Hash #[Value.pointer x, Value.func (Fn.func (49 : Nat)) #[Value.pointer x] #[]] h1 fun (v2 : Value) (h3 : Heap) =>
 ∃ (p4 : Option Addr),
 ∃ (l5 : Nat),
 ∃ (c6 : Nat),
 v2 = Value.slice p4 l5 c6 ∧
 CallsH Tryz.prog n_message_items_api_Hash #[Value.pointer x, Value.func (Fn.func (49 : Nat)) #[Value.pointer x] #[]] h3 fun (v7 : Value) (h8 : Heap) =>
 ∃ (p9 : Option Addr),
 ∃ (l10 : Nat),
 ∃ (c11 : Nat),
 v7 = Value.slice p9 l10 c11 ∧
 storeP (some (2 : Nat)) h8 (Addr.mk b0 (0 : Nat) none) (Value.agg #[Value.slice p4 l5 c6, Value.slice p9 l10 c11]) fun (h12 : Heap) =>
 ∃ (cs13 : Array Value), row h12 (Addr.mk b0 (0 : Nat) none) (2 : Nat) = some cs13 ∧ R (Value.agg cs13) h12
theorem C_message_decoder_trail (x : Option Addr) {h : Heap} {R : Value → Heap → Prop} (H : F_message_decoder_trail x h R) : CallsH Tryz.prog n_message_decoder_trail [(.pointer x)].toArray h R :=
  fn_sound (A := A_message_decoder_trail) (Eq.mp (by kernel_rfl : F_message_decoder_trail x h R = fnVc Go.Proofs.Tryz.prog A_message_decoder_trail 48 [(.pointer x)] h R) H)

/- (*rolodex/message.decoder).prefix -/
def A_message_decoder_prefix : Ann := { qs := [4, 5, 6, 7, 8, 9, 10, 11, 13, 14, 16, 17, 18, 19, 20, 21, 22, 23, 24, 25, 27, 37, 38, 41, 42, 58, 59, 60, 61, 62, 81, 86, 93, 94, 98, 106, 108, 109, 110, 112] }
def F_message_decoder_prefix (x : Option Addr) (h : Heap) (R : Value → Heap → Prop) : Prop :=
 newBlk h (36 : Nat) (List.toArray (Value.int IntKind.i64 (0 : Int) :: List.replicate (32 : Nat) (Value.int IntKind.u8 (0 : Int)))) fun (b0 : Nat) (h1 : Heap) =>
 deref x fun (a2 : Addr) =>
 ∃ (p3 : Option Addr),
 cell h1 (Addr.add a2 (0 : Nat)) = some (Value.pointer p3) ∧
 CallsH Tryz.prog n_wire_Reader_U16 #[Value.pointer p3] h1 fun (v4 : Value) (h5 : Heap) =>
 ∃ (n6 : Int),
 v4 = Value.int IntKind.i64 n6 ∧
 newBlk h5 (36 : Nat) (List.toArray (Value.int IntKind.i64 (0 : Int) :: List.replicate (32 : Nat) (Value.int IntKind.u8 (0 : Int)))) fun (b7 : Nat) (h8 : Heap) =>
 storeP (some (33 : Nat)) h8 (Addr.mk b7 (0 : Nat) none) (Value.agg (List.toArray (Value.int IntKind.i64 n6 :: List.replicate (32 : Nat) (Value.int IntKind.u8 (0 : Int)))))
 fun (h9 : Heap) =>
 CallsH Tryz.prog n_message_decoder_hash #[Value.pointer x] h9 fun (v10 : Value) (h11 : Heap) =>
 ∃ (cs12 : Array Value),
 Array.size cs12 = (32 : Nat) ∧
 v10 = Value.agg cs12 ∧
 storeP (some (32 : Nat)) h11 (Addr.mk (Addr.block (Addr.mk b7 (0 : Nat) none)) (Addr.off (Addr.mk b7 (0 : Nat) none) + (1 : Nat)) none) (Value.agg cs12) fun (h13 : Heap) =>
 ∃ (cs14 : Array Value),
 row h13 (Addr.mk b7 (0 : Nat) none) (33 : Nat) = some cs14 ∧
 CallsH Tryz.prog n_prefix_Formed #[Value.agg cs14] h13 fun (v15 : Value) (h16 : Heap) =>
 Ext h13 h16 ∧
 ∃ (t17 : Bool),
 v15 = Value.bool t17 ∧
 br (!t17)
 (CallsH Tryz.prog n_message_decoder_fail #[Value.pointer x] h16 fun (v18 : Value) (h19 : Heap) =>
 v18 = Value.tuple #[] ∧
 storeP (some (33 : Nat)) h19 (Addr.mk b0 (0 : Nat) none)
 (Value.agg (List.toArray (Value.int IntKind.i64 (0 : Int) :: List.replicate (32 : Nat) (Value.int IntKind.u8 (0 : Int))))) fun (h20 : Heap) =>
 ∃ (cs21 : Array Value), row h20 (Addr.mk b0 (0 : Nat) none) (33 : Nat) = some cs21 ∧ R (Value.agg cs21) h20)
 (∃ (cs22 : Array Value),
 row h16 (Addr.mk b7 (0 : Nat) none) (33 : Nat) = some cs22 ∧
 storeP (some (33 : Nat)) h16 (Addr.mk b0 (0 : Nat) none) (Value.agg cs22) fun (h23 : Heap) =>
 ∃ (cs24 : Array Value), row h23 (Addr.mk b0 (0 : Nat) none) (33 : Nat) = some cs24 ∧ R (Value.agg cs24) h23)
theorem C_message_decoder_prefix (x : Option Addr) {h : Heap} {R : Value → Heap → Prop} (H : F_message_decoder_prefix x h R) : CallsH Tryz.prog n_message_decoder_prefix [(.pointer x)].toArray h R :=
  fn_sound (A := A_message_decoder_prefix) (Eq.mp (by kernel_rfl : F_message_decoder_prefix x h R = fnVc Go.Proofs.Tryz.prog A_message_decoder_prefix 90 [(.pointer x)] h R) H)

/- (*rolodex/message.decoder).step -/
def A_message_decoder_step : Ann := { qs := [4, 5, 6, 7, 8, 9, 10, 11, 13, 14, 16, 17, 18, 19, 20, 21, 22, 23, 24, 25, 27, 37, 38, 41, 42, 58, 59, 60, 61, 62, 81, 86, 93, 94, 98, 106, 108, 109, 110, 112], plans := [(2, (.take 1 (.alt 0 (.alt 2 (.take 3 (.alt 4 .done .stop)) .stop) (.alt 2 (.take 0 (.take 3 (.alt 4 .done .stop))) .stop))))] }
def F_message_decoder_step (x : Option Addr) (h : Heap) (R : Value → Heap → Prop) : Prop :=
 newBlk h (126 : Nat) (List.toArray (Value.int IntKind.i64 (0 : Int) :: List.replicate (64 : Nat) (Value.int IntKind.u8 (0 : Int)))) fun (b0 : Nat) (h1 : Heap) =>
 CallsH Tryz.prog n_message_decoder_prefix #[Value.pointer x] h1 fun (v2 : Value) (h3 : Heap) =>
 ∃ (cs4 : Array Value),
 Array.size cs4 = (33 : Nat) ∧
 v2 = Value.agg cs4 ∧
 newBlk h3 (36 : Nat) (List.toArray (Value.int IntKind.i64 (0 : Int) :: List.replicate (32 : Nat) (Value.int IntKind.u8 (0 : Int)))) fun (b5 : Nat) (h6 : Heap) =>
 storeP (some (33 : Nat)) h6 (Addr.mk b5 (0 : Nat) none) (Value.agg cs4) fun (h7 : Heap) =>
 (∃ (cs8 : Array Value),
 row h7 (Addr.mk b5 (0 : Nat) none) (33 : Nat) = some cs8 ∧
 CallsH Tryz.prog n_message_decoder_hash #[Value.pointer x] h7 fun (v9 : Value) (h10 : Heap) =>
 ∃ (cs11 : Array Value),
 Array.size cs11 = (32 : Nat) ∧
 v9 = Value.agg cs11 ∧
 Array.size cs8 = (33 : Nat) ∧
 Array.size cs11 = (32 : Nat) ∧
 storeP (some (65 : Nat)) h10 (Addr.mk b0 (0 : Nat) none) (Value.agg (List.toArray (Array.toList cs8 ++ (Array.toList cs11 ++ [])))) fun (h12 : Heap) =>
 ∃ (cs13 : Array Value), row h12 (Addr.mk b0 (0 : Nat) none) (65 : Nat) = some cs13 ∧ R (Value.agg cs13) h12) ∧
 CallsH Tryz.prog n_message_decoder_hash #[Value.pointer x] h7 fun (v14 : Value) (h15 : Heap) =>
 ∃ (cs16 : Array Value),
 Array.size cs16 = (32 : Nat) ∧
 v14 = Value.agg cs16 ∧
 ∃ (cs17 : Array Value),
 row h15 (Addr.mk b5 (0 : Nat) none) (33 : Nat) = some cs17 ∧
 Array.size cs17 = (33 : Nat) ∧
 Array.size cs16 = (32 : Nat) ∧
 storeP (some (65 : Nat)) h15 (Addr.mk b0 (0 : Nat) none) (Value.agg (List.toArray (Array.toList cs17 ++ (Array.toList cs16 ++ [])))) fun (h18 : Heap) =>
 ∃ (cs19 : Array Value), row h18 (Addr.mk b0 (0 : Nat) none) (65 : Nat) = some cs19 ∧ R (Value.agg cs19) h18
theorem C_message_decoder_step (x : Option Addr) {h : Heap} {R : Value → Heap → Prop} (H : F_message_decoder_step x h R) : CallsH Tryz.prog n_message_decoder_step [(.pointer x)].toArray h R :=
  fn_sound (A := A_message_decoder_step) (Eq.mp (by kernel_rfl : F_message_decoder_step x h R = fnVc Go.Proofs.Tryz.prog A_message_decoder_step 89 [(.pointer x)] h R) H)

/- (*rolodex/message.decoder).proof -/
def A_message_decoder_proof : Ann := { qs := [4, 5, 6, 7, 8, 9, 10, 11, 13, 14, 16, 17, 18, 19, 20, 21, 22, 23, 24, 25, 27, 37, 38, 41, 42, 58, 59, 60, 61, 62, 81, 86, 93, 94, 98, 106, 108, 109, 110, 112] }
def F_message_decoder_proof (x : Option Addr) (h : Heap) (R : Value → Heap → Prop) : Prop :=
 newBlk h (38 : Nat)
 (List.toArray
 (Value.slice none (0 : Nat) (0 : Nat) ::
 Value.int IntKind.i64 (0 : Int) :: (List.replicate (64 : Nat) (Value.int IntKind.u8 (0 : Int)) ++ Value.int IntKind.i64 (0 : Int) :: List.replicate (96 : Nat) (Value.int IntKind.u8 (0 : Int)))))
 fun (b0 : Nat) (h1 : Heap) =>
 CallsH Tryz.prog n_message_items_proof_Step #[Value.pointer x, Value.func (Fn.func (89 : Nat)) #[Value.pointer x] #[]] h1 fun (v2 : Value) (h3 : Heap) =>
 ∃ (p4 : Option Addr),
 ∃ (l5 : Nat),
 ∃ (c6 : Nat),
 v2 = Value.slice p4 l5 c6 ∧
 newBlk h3 (38 : Nat)
 (List.toArray
 (Value.slice none (0 : Nat) (0 : Nat) ::
 Value.int IntKind.i64 (0 : Int) ::
 (List.replicate (64 : Nat) (Value.int IntKind.u8 (0 : Int)) ++ Value.int IntKind.i64 (0 : Int) :: List.replicate (96 : Nat) (Value.int IntKind.u8 (0 : Int)))))
 fun (b7 : Nat) (h8 : Heap) =>
 storeP (some (163 : Nat)) h8 (Addr.mk b7 (0 : Nat) none)
 (Value.agg
 (List.toArray
 (Value.slice p4 l5 c6 ::
 Value.int IntKind.i64 (0 : Int) ::
 (List.replicate (64 : Nat) (Value.int IntKind.u8 (0 : Int)) ++ Value.int IntKind.i64 (0 : Int) :: List.replicate (96 : Nat) (Value.int IntKind.u8 (0 : Int))))))
 fun (h9 : Heap) =>
 deref x fun (a10 : Addr) =>
 ∃ (p11 : Option Addr),
 cell h9 (Addr.add a10 (0 : Nat)) = some (Value.pointer p11) ∧
 CallsH Tryz.prog n_wire_Reader_U8 #[Value.pointer p11] h9 fun (v12 : Value) (h13 : Heap) =>
 ∃ (n14 : Int),
 v12 = Value.int IntKind.i64 n14 ∧
 storeP none h13 (Addr.mk (Addr.block (Addr.mk b7 (0 : Nat) none)) (Addr.off (Addr.mk b7 (0 : Nat) none) + (1 : Nat)) none) (Value.int IntKind.i64 n14) fun (h15 : Heap) =>
 ∃ (n16 : Int),
 cell h15 (Addr.add (Addr.mk b7 (0 : Nat) none) (1 : Nat)) = some (Value.int IntKind.i64 n16) ∧
 br (n16 == (0 : Int))
 (∃ (cs17 : Array Value),
 row h15 (Addr.mk b7 (0 : Nat) none) (163 : Nat) = some cs17 ∧
 storeP (some (163 : Nat)) h15 (Addr.mk b0 (0 : Nat) none) (Value.agg cs17) fun (h18 : Heap) =>
 ∃ (cs19 : Array Value), row h18 (Addr.mk b0 (0 : Nat) none) (163 : Nat) = some cs19 ∧ R (Value.agg cs19) h18)
 (br (n16 == (1 : Int))
 (CallsH Tryz.prog n_message_decoder_hash #[Value.pointer x] h15 fun (v20 : Value) (h21 : Heap) =>
 ∃ (cs22 : Array Value),
 Array.size cs22 = (32 : Nat) ∧
 v20 = Value.agg cs22 ∧
 storeP (some (32 : Nat)) h21 (Addr.mk (Addr.block (Addr.mk b7 (0 : Nat) none)) (Addr.off (Addr.mk b7 (0 : Nat) none) + (2 : Nat)) none) (Value.agg cs22)
 fun (h23 : Heap) =>
 CallsH Tryz.prog n_message_decoder_hash #[Value.pointer x] h23 fun (v24 : Value) (h25 : Heap) =>
 ∃ (cs26 : Array Value),
 Array.size cs26 = (32 : Nat) ∧
 v24 = Value.agg cs26 ∧
 storeP (some (32 : Nat)) h25 (Addr.mk (Addr.block (Addr.mk b7 (0 : Nat) none)) (Addr.off (Addr.mk b7 (0 : Nat) none) + (34 : Nat)) none)
 (Value.agg cs26) fun (h27 : Heap) =>
 ∃ (cs28 : Array Value),
 row h27 (Addr.mk b7 (0 : Nat) none) (163 : Nat) = some cs28 ∧
 storeP (some (163 : Nat)) h27 (Addr.mk b0 (0 : Nat) none) (Value.agg cs28) fun (h29 : Heap) =>
 ∃ (cs30 : Array Value), row h29 (Addr.mk b0 (0 : Nat) none) (163 : Nat) = some cs30 ∧ R (Value.agg cs30) h29)
 (br (n16 == (2 : Int))
 (CallsH Tryz.prog n_message_decoder_prefix #[Value.pointer x] h15 fun (v31 : Value) (h32 : Heap) =>
 ∃ (cs33 : Array Value),
 Array.size cs33 = (33 : Nat) ∧
 v31 = Value.agg cs33 ∧
 storeP (some (33 : Nat)) h32 (Addr.mk (Addr.block (Addr.mk b7 (0 : Nat) none)) (Addr.off (Addr.mk b7 (0 : Nat) none) + (66 : Nat)) none)
 (Value.agg cs33) fun (h34 : Heap) =>
 CallsH Tryz.prog n_message_decoder_hash #[Value.pointer x] h34 fun (v35 : Value) (h36 : Heap) =>
 ∃ (cs37 : Array Value),
 Array.size cs37 = (32 : Nat) ∧
 v35 = Value.agg cs37 ∧
 storeP (some (32 : Nat)) h36 (Addr.mk (Addr.block (Addr.mk b7 (0 : Nat) none)) (Addr.off (Addr.mk b7 (0 : Nat) none) + (99 : Nat)) none)
 (Value.agg cs37) fun (h38 : Heap) =>
 CallsH Tryz.prog n_message_decoder_hash #[Value.pointer x] h38 fun (v39 : Value) (h40 : Heap) =>
 ∃ (cs41 : Array Value),
 Array.size cs41 = (32 : Nat) ∧
 v39 = Value.agg cs41 ∧
 storeP (some (32 : Nat)) h40
 (Addr.mk (Addr.block (Addr.mk b7 (0 : Nat) none)) (Addr.off (Addr.mk b7 (0 : Nat) none) + (131 : Nat)) none) (Value.agg cs41)
 fun (h42 : Heap) =>
 ∃ (cs43 : Array Value),
 row h42 (Addr.mk b7 (0 : Nat) none) (163 : Nat) = some cs43 ∧
 storeP (some (163 : Nat)) h42 (Addr.mk b0 (0 : Nat) none) (Value.agg cs43) fun (h44 : Heap) =>
 ∃ (cs45 : Array Value), row h44 (Addr.mk b0 (0 : Nat) none) (163 : Nat) = some cs45 ∧ R (Value.agg cs45) h44)
 (CallsH Tryz.prog n_message_decoder_fail #[Value.pointer x] h15 fun (v46 : Value) (h47 : Heap) =>
 v46 = Value.tuple #[] ∧
 ∃ (cs48 : Array Value),
 row h47 (Addr.mk b7 (0 : Nat) none) (163 : Nat) = some cs48 ∧
 storeP (some (163 : Nat)) h47 (Addr.mk b0 (0 : Nat) none) (Value.agg cs48) fun (h49 : Heap) =>
 ∃ (cs50 : Array Value), row h49 (Addr.mk b0 (0 : Nat) none) (163 : Nat) = some cs50 ∧ R (Value.agg cs50) h49)))
theorem C_message_decoder_proof (x : Option Addr) {h : Heap} {R : Value → Heap → Prop} (H : F_message_decoder_proof x h R) : CallsH Tryz.prog n_message_decoder_proof [(.pointer x)].toArray h R :=
  fn_sound (A := A_message_decoder_proof) (Eq.mp (by kernel_rfl : F_message_decoder_proof x h R = fnVc Go.Proofs.Tryz.prog A_message_decoder_proof 50 [(.pointer x)] h R) H)

/- (*rolodex/message.decoder).version -/
def A_message_decoder_version : Ann := { qs := [4, 5, 6, 7, 8, 9, 10, 11, 13, 14, 16, 17, 18, 19, 20, 21, 22, 23, 24, 25, 27, 37, 38, 41, 42, 58, 59, 60, 61, 62, 81, 86, 93, 94, 98, 106, 108, 109, 110, 112] }
def F_message_decoder_version (x : Option Addr) (h : Heap) (R : Value → Heap → Prop) : Prop :=
 newBlk h (70 : Nat)
 (List.toArray (Value.int IntKind.i64 (0 : Int) :: Value.int IntKind.i64 (0 : Int) :: (List.replicate (64 : Nat) (Value.int IntKind.u8 (0 : Int)) ++ [Value.slice none (0 : Nat) (0 : Nat)])))
 fun (b0 : Nat) (h1 : Heap) =>
 CallsH Tryz.prog n_message_decoder_number #[Value.pointer x] h1 fun (v2 : Value) (h3 : Heap) =>
 ∃ (n4 : Int),
 v2 = Value.int IntKind.i64 n4 ∧
 newBlk h3 (70 : Nat)
 (List.toArray (Value.int IntKind.i64 (0 : Int) :: Value.int IntKind.i64 (0 : Int) :: (List.replicate (64 : Nat) (Value.int IntKind.u8 (0 : Int)) ++ [Value.slice none (0 : Nat) (0 : Nat)])))
 fun (b5 : Nat) (h6 : Heap) =>
 storeP (some (67 : Nat)) h6 (Addr.mk b5 (0 : Nat) none)
 (Value.agg
 (List.toArray (Value.int IntKind.i64 n4 :: Value.int IntKind.i64 (0 : Int) :: (List.replicate (64 : Nat) (Value.int IntKind.u8 (0 : Int)) ++ [Value.slice none (0 : Nat) (0 : Nat)]))))
 fun (h7 : Heap) =>
 CallsH Tryz.prog n_message_decoder_number #[Value.pointer x] h7 fun (v8 : Value) (h9 : Heap) =>
 ∃ (n10 : Int),
 v8 = Value.int IntKind.i64 n10 ∧
 storeP none h9 (Addr.mk (Addr.block (Addr.mk b5 (0 : Nat) none)) (Addr.off (Addr.mk b5 (0 : Nat) none) + (1 : Nat)) none) (Value.int IntKind.i64 n10) fun (h11 : Heap) =>
 CallsH Tryz.prog n_message_decoder_hash #[Value.pointer x] h11 fun (v12 : Value) (h13 : Heap) =>
 ∃ (cs14 : Array Value),
 Array.size cs14 = (32 : Nat) ∧
 v12 = Value.agg cs14 ∧
 storeP (some (32 : Nat)) h13 (Addr.mk (Addr.block (Addr.mk b5 (0 : Nat) none)) (Addr.off (Addr.mk b5 (0 : Nat) none) + (2 : Nat)) none) (Value.agg cs14) fun (h15 : Heap) =>
 CallsH Tryz.prog n_message_decoder_hash #[Value.pointer x] h15 fun (v16 : Value) (h17 : Heap) =>
 ∃ (cs18 : Array Value),
 Array.size cs18 = (32 : Nat) ∧
 v16 = Value.agg cs18 ∧
 storeP (some (32 : Nat)) h17 (Addr.mk (Addr.block (Addr.mk b5 (0 : Nat) none)) (Addr.off (Addr.mk b5 (0 : Nat) none) + (34 : Nat)) none) (Value.agg cs18)
 fun (h19 : Heap) =>
 CallsH Tryz.prog n_message_decoder_text #[Value.pointer x] h19 fun (v20 : Value) (h21 : Heap) =>
 ∃ (p22 : Option Addr),
 ∃ (l23 : Nat),
 ∃ (c24 : Nat),
 v20 = Value.slice p22 l23 c24 ∧
 storeP none h21 (Addr.mk (Addr.block (Addr.mk b5 (0 : Nat) none)) (Addr.off (Addr.mk b5 (0 : Nat) none) + (66 : Nat)) none) (Value.slice p22 l23 c24)
 fun (h25 : Heap) =>
 ∃ (cs26 : Array Value),
 row h25 (Addr.mk b5 (0 : Nat) none) (67 : Nat) = some cs26 ∧
 storeP (some (67 : Nat)) h25 (Addr.mk b0 (0 : Nat) none) (Value.agg cs26) fun (h27 : Heap) =>
 ∃ (cs28 : Array Value), row h27 (Addr.mk b0 (0 : Nat) none) (67 : Nat) = some cs28 ∧ R (Value.agg cs28) h27
theorem C_message_decoder_version (x : Option Addr) {h : Heap} {R : Value → Heap → Prop} (H : F_message_decoder_version x h R) : CallsH Tryz.prog n_message_decoder_version [(.pointer x)].toArray h R :=
  fn_sound (A := A_message_decoder_version) (Eq.mp (by kernel_rfl : F_message_decoder_version x h R = fnVc Go.Proofs.Tryz.prog A_message_decoder_version 52 [(.pointer x)] h R) H)

/- (*rolodex/message.decoder).row -/
def A_message_decoder_row : Ann := { qs := [4, 5, 6, 7, 8, 9, 10, 11, 13, 14, 16, 17, 18, 19, 20, 21, 22, 23, 24, 25, 27, 37, 38, 41, 42, 58, 59, 60, 61, 62, 81, 86, 93, 94, 98, 106, 108, 109, 110, 112] }
def F_message_decoder_row (x : Option Addr) (h : Heap) (R : Value → Heap → Prop) : Prop :=
 newBlk h (74 : Nat)
 (List.toArray (Value.bool false :: (List.replicate (64 : Nat) (Value.int IntKind.u8 (0 : Int)) ++ Value.int IntKind.i64 (0 : Int) :: List.replicate (96 : Nat) (Value.int IntKind.u8 (0 : Int)))))
 fun (b0 : Nat) (h1 : Heap) =>
 deref x fun (a2 : Addr) =>
 ∃ (p3 : Option Addr),
 cell h1 (Addr.add a2 (0 : Nat)) = some (Value.pointer p3) ∧
 CallsH Tryz.prog n_wire_Reader_Flag #[Value.pointer p3] h1 fun (v4 : Value) (h5 : Heap) =>
 ∃ (t6 : Bool),
 v4 = Value.bool t6 ∧
 newBlk h5 (74 : Nat)
 (List.toArray
 (Value.bool false :: (List.replicate (64 : Nat) (Value.int IntKind.u8 (0 : Int)) ++ Value.int IntKind.i64 (0 : Int) :: List.replicate (96 : Nat) (Value.int IntKind.u8 (0 : Int)))))
 fun (b7 : Nat) (h8 : Heap) =>
 storeP (some (162 : Nat)) h8 (Addr.mk b7 (0 : Nat) none)
 (Value.agg
 (List.toArray
 (Value.bool t6 :: (List.replicate (64 : Nat) (Value.int IntKind.u8 (0 : Int)) ++ Value.int IntKind.i64 (0 : Int) :: List.replicate (96 : Nat) (Value.int IntKind.u8 (0 : Int))))))
 fun (h9 : Heap) =>
 ∃ (t10 : Bool),
 cell h9 (Addr.add (Addr.mk b7 (0 : Nat) none) (0 : Nat)) = some (Value.bool t10) ∧
 br t10
 (CallsH Tryz.prog n_message_decoder_hash #[Value.pointer x] h9 fun (v11 : Value) (h12 : Heap) =>
 ∃ (cs13 : Array Value),
 Array.size cs13 = (32 : Nat) ∧
 v11 = Value.agg cs13 ∧
 storeP (some (32 : Nat)) h12 (Addr.mk (Addr.block (Addr.mk b7 (0 : Nat) none)) (Addr.off (Addr.mk b7 (0 : Nat) none) + (1 : Nat)) none) (Value.agg cs13)
 fun (h14 : Heap) =>
 CallsH Tryz.prog n_message_decoder_hash #[Value.pointer x] h14 fun (v15 : Value) (h16 : Heap) =>
 ∃ (cs17 : Array Value),
 Array.size cs17 = (32 : Nat) ∧
 v15 = Value.agg cs17 ∧
 storeP (some (32 : Nat)) h16 (Addr.mk (Addr.block (Addr.mk b7 (0 : Nat) none)) (Addr.off (Addr.mk b7 (0 : Nat) none) + (33 : Nat)) none) (Value.agg cs17)
 fun (h18 : Heap) =>
 ∃ (cs19 : Array Value),
 row h18 (Addr.mk b7 (0 : Nat) none) (162 : Nat) = some cs19 ∧
 storeP (some (162 : Nat)) h18 (Addr.mk b0 (0 : Nat) none) (Value.agg cs19) fun (h20 : Heap) =>
 ∃ (cs21 : Array Value), row h20 (Addr.mk b0 (0 : Nat) none) (162 : Nat) = some cs21 ∧ R (Value.agg cs21) h20)
 (CallsH Tryz.prog n_message_decoder_prefix #[Value.pointer x] h9 fun (v22 : Value) (h23 : Heap) =>
 ∃ (cs24 : Array Value),
 Array.size cs24 = (33 : Nat) ∧
 v22 = Value.agg cs24 ∧
 storeP (some (33 : Nat)) h23 (Addr.mk (Addr.block (Addr.mk b7 (0 : Nat) none)) (Addr.off (Addr.mk b7 (0 : Nat) none) + (65 : Nat)) none) (Value.agg cs24)
 fun (h25 : Heap) =>
 CallsH Tryz.prog n_message_decoder_hash #[Value.pointer x] h25 fun (v26 : Value) (h27 : Heap) =>
 ∃ (cs28 : Array Value),
 Array.size cs28 = (32 : Nat) ∧
 v26 = Value.agg cs28 ∧
 storeP (some (32 : Nat)) h27 (Addr.mk (Addr.block (Addr.mk b7 (0 : Nat) none)) (Addr.off (Addr.mk b7 (0 : Nat) none) + (98 : Nat)) none) (Value.agg cs28)
 fun (h29 : Heap) =>
 CallsH Tryz.prog n_message_decoder_hash #[Value.pointer x] h29 fun (v30 : Value) (h31 : Heap) =>
 ∃ (cs32 : Array Value),
 Array.size cs32 = (32 : Nat) ∧
 v30 = Value.agg cs32 ∧
 storeP (some (32 : Nat)) h31 (Addr.mk (Addr.block (Addr.mk b7 (0 : Nat) none)) (Addr.off (Addr.mk b7 (0 : Nat) none) + (130 : Nat)) none)
 (Value.agg cs32) fun (h33 : Heap) =>
 ∃ (cs34 : Array Value),
 row h33 (Addr.mk b7 (0 : Nat) none) (162 : Nat) = some cs34 ∧
 storeP (some (162 : Nat)) h33 (Addr.mk b0 (0 : Nat) none) (Value.agg cs34) fun (h35 : Heap) =>
 ∃ (cs36 : Array Value), row h35 (Addr.mk b0 (0 : Nat) none) (162 : Nat) = some cs36 ∧ R (Value.agg cs36) h35)
theorem C_message_decoder_row (x : Option Addr) {h : Heap} {R : Value → Heap → Prop} (H : F_message_decoder_row x h R) : CallsH Tryz.prog n_message_decoder_row [(.pointer x)].toArray h R :=
  fn_sound (A := A_message_decoder_row) (Eq.mp (by kernel_rfl : F_message_decoder_row x h R = fnVc Go.Proofs.Tryz.prog A_message_decoder_row 54 [(.pointer x)] h R) H)

/- (*rolodex/message.decoder).news -/
def A_message_decoder_news : Ann := { qs := [4, 5, 6, 7, 8, 9, 10, 11, 13, 14, 16, 17, 18, 19, 20, 21, 22, 23, 24, 25, 27, 37, 38, 41, 42, 58, 59, 60, 61, 62, 81, 86, 93, 94, 98, 106, 108, 109, 110, 112] }
def F_message_decoder_news (x : Option Addr) (h : Heap) (R : Value → Heap → Prop) : Prop :=
 newBlk h (77 : Nat)
 (List.toArray
 (Value.slice none (0 : Nat) (0 : Nat) ::
 Value.int IntKind.i64 (0 : Int) :: Value.int IntKind.i64 (0 : Int) :: (List.replicate (64 : Nat) (Value.int IntKind.u8 (0 : Int)) ++ [Value.slice none (0 : Nat) (0 : Nat)])))
 fun (b0 : Nat) (h1 : Heap) =>
 CallsH Tryz.prog n_message_decoder_text #[Value.pointer x] h1 fun (v2 : Value) (h3 : Heap) =>
 ∃ (p4 : Option Addr),
 ∃ (l5 : Nat),
 ∃ (c6 : Nat),
 v2 = Value.slice p4 l5 c6 ∧
 CallsH Tryz.prog n_message_decoder_version #[Value.pointer x] h3 fun (v7 : Value) (h8 : Heap) =>
 ∃ (cs9 : Array Value),
 Array.size cs9 = (67 : Nat) ∧
 v7 = Value.agg cs9 ∧
 Array.size cs9 = (67 : Nat) ∧
 storeP (some (68 : Nat)) h8 (Addr.mk b0 (0 : Nat) none) (Value.agg (List.toArray (Value.slice p4 l5 c6 :: (Array.toList cs9 ++ [])))) fun (h10 : Heap) =>
 ∃ (cs11 : Array Value), row h10 (Addr.mk b0 (0 : Nat) none) (68 : Nat) = some cs11 ∧ R (Value.agg cs11) h10
theorem C_message_decoder_news (x : Option Addr) {h : Heap} {R : Value → Heap → Prop} (H : F_message_decoder_news x h R) : CallsH Tryz.prog n_message_decoder_news [(.pointer x)].toArray h R :=
  fn_sound (A := A_message_decoder_news) (Eq.mp (by kernel_rfl : F_message_decoder_news x h R = fnVc Go.Proofs.Tryz.prog A_message_decoder_news 56 [(.pointer x)] h R) H)

/- rolodex/head.Decode -/
def A_head_Decode : Ann := { qs := [4, 5, 6, 7, 8, 9, 10, 11, 13, 14, 16, 17, 18, 19, 20, 21, 22, 23, 24, 25, 27, 37, 38, 41, 42, 58, 59, 60, 61, 62, 81, 86, 93, 94, 98, 106, 108, 109, 110, 112], plans := [(4, (.take 0 (.take 3 (.take 6 (.take 10 (.alt 1 (.take 2 (.alt 4 (.take 5 (.alt 7 (.take 8 (.alt 9 (.alt 11 (.take 12 (.take 13 (.take 14 (.alt 15 (.alt 16 .done .stop) .stop)))) (.alt 15 (.alt 11 (.take 12 (.take 13 (.take 14 (.alt 16 .done .stop)))) .stop) .stop)) (.alt 11 (.take 9 (.take 12 (.take 13 (.take 14 (.alt 15 (.alt 16 .done .stop) .stop))))) (.alt 15 (.alt 9 (.alt 11 (.take 12 (.take 13 (.take 14 (.alt 16 .done .stop)))) .stop) (.alt 11 (.take 9 (.take 12 (.take 13 (.take 14 (.alt 16 .done .stop))))) .stop)) .stop)))) (.alt 15 (.alt 7 (.take 8 (.alt 9 (.alt 11 (.take 12 (.take 13 (.take 14 (.alt 16 .done .stop)))) .stop) (.alt 11 (.take 9 (.take 12 (.take 13 (.take 14 (.alt 16 .done .stop))))) .stop))) .stop) .stop))) (.alt 15 (.alt 4 (.take 5 (.alt 7 (.take 8 (.alt 9 (.alt 11 (.take 12 (.take 13 (.take 14 (.alt 16 .done .stop)))) .stop) (.alt 11 (.take 9 (.take 12 (.take 13 (.take 14 (.alt 16 .done .stop))))) .stop))) .stop)) .stop) .stop))) (.alt 15 (.alt 1 (.take 2 (.alt 4 (.take 5 (.alt 7 (.take 8 (.alt 9 (.alt 11 (.take 12 (.take 13 (.take 14 (.alt 16 .done .stop)))) .stop) (.alt 11 (.take 9 (.take 12 (.take 13 (.take 14 (.alt 16 .done .stop))))) .stop))) .stop)) .stop)) .stop) .stop)))))))] }
def F_head_Decode (b : Option Addr) (b_l : Nat) (b_c : Nat) (h : Heap) (R : Value → Heap → Prop) : Prop :=
 newBlk h (28 : Nat) (List.toArray (Value.int IntKind.i64 (0 : Int) :: Value.int IntKind.i64 (0 : Int) :: List.replicate (64 : Nat) (Value.int IntKind.u8 (0 : Int)))) fun (b0 : Nat) (h1 : Heap) =>
 br ((↑b_l : Int) != (72 : Int))
 (storeP (some (66 : Nat)) h1 (Addr.mk b0 (0 : Nat) none)
 (Value.agg (List.toArray (Value.int IntKind.i64 (0 : Int) :: Value.int IntKind.i64 (0 : Int) :: List.replicate (64 : Nat) (Value.int IntKind.u8 (0 : Int))))) fun (h2 : Heap) =>
 ∃ (cs3 : Array Value), row h2 (Addr.mk b0 (0 : Nat) none) (66 : Nat) = some cs3 ∧ R (Value.tuple #[Value.agg cs3, Value.int IntKind.i64 (2 : Int)]) h2)
 (CallsH Tryz.prog n_wire_New #[Value.slice b b_l b_c] h1 fun (v4 : Value) (h5 : Heap) =>
 Ext h1 h5 ∧
 ∃ (p6 : Option Addr),
 v4 = Value.pointer p6 ∧
 (CallsH Tryz.prog n_wire_Reader_U32 #[Value.pointer p6] h5 fun (v7 : Value) (h8 : Heap) =>
 ∃ (n9 : Int),
 v7 = Value.int IntKind.u32 n9 ∧
 (CallsH Tryz.prog n_wire_Reader_U32 #[Value.pointer p6] h8 fun (v10 : Value) (h11 : Heap) =>
 ∃ (n12 : Int),
 v10 = Value.int IntKind.u32 n12 ∧
 (CallsH Tryz.prog n_wire_Reader_Plain #[Value.pointer p6, Value.int IntKind.i64 (32 : Int)] h11 fun (v13 : Value) (h14 : Heap) =>
 ∃ (p15 : Option Addr),
 ∃ (l16 : Nat),
 ∃ (c17 : Nat),
 v13 = Value.slice p15 l16 c17 ∧
 (32 : Nat) ≤ l16 ∧
 deref p15 fun (a18 : Addr) =>
 (∃ (cs19 : Array Value),
 row h14 a18 (32 : Nat) = some cs19 ∧
 (CallsH Tryz.prog n_wire_Reader_Plain #[Value.pointer p6, Value.int IntKind.i64 (32 : Int)] h14 fun (v20 : Value) (h21 : Heap) =>
 ∃ (p22 : Option Addr),
 ∃ (l23 : Nat),
 ∃ (c24 : Nat),
 v20 = Value.slice p22 l23 c24 ∧
 (32 : Nat) ≤ l23 ∧
 deref p22 fun (a25 : Addr) =>
 ∃ (cs26 : Array Value),
 row h21 a25 (32 : Nat) = some cs26 ∧
 Array.size cs19 = (32 : Nat) ∧
 Array.size cs26 = (32 : Nat) ∧
 newBlk h21 (28 : Nat)
 (List.toArray
 (Value.int IntKind.i64 (0 : Int) ::
 Value.int IntKind.i64 (0 : Int) :: List.replicate (64 : Nat) (Value.int IntKind.u8 (0 : Int))))
 fun (b27 : Nat) (h28 : Heap) =>
 storeP (some (66 : Nat)) h28 (Addr.mk b27 (0 : Nat) none)
 (Value.agg
 (List.toArray
 (Value.int IntKind.i64 (IntKind.wrap IntKind.i64 n9) ::
 Value.int IntKind.i64 (IntKind.wrap IntKind.i64 n12) :: (Array.toList cs19 ++ (Array.toList cs26 ++ [])))))
 fun (h29 : Heap) =>
 ∃ (cs30 : Array Value),
 row h29 (Addr.mk b27 (0 : Nat) none) (66 : Nat) = some cs30 ∧
 CallsH Tryz.prog n_head_Head_is #[Value.agg cs30] h29 fun (v31 : Value) (h32 : Heap) =>
 Ext h29 h32 ∧
 ∃ (t33 : Bool),
 v31 = Value.bool t33 ∧
 br (!t33)
 (storeP (some (66 : Nat)) h32 (Addr.mk b0 (0 : Nat) none)
 (Value.agg
 (List.toArray
 (Value.int IntKind.i64 (0 : Int) ::
 Value.int IntKind.i64 (0 : Int) :: List.replicate (64 : Nat) (Value.int IntKind.u8 (0 : Int)))))
 fun (h34 : Heap) =>
 ∃ (cs35 : Array Value),
 row h34 (Addr.mk b0 (0 : Nat) none) (66 : Nat) = some cs35 ∧
 R (Value.tuple #[Value.agg cs35, Value.int IntKind.i64 (2 : Int)]) h34)
 (∃ (cs36 : Array Value),
 row h32 (Addr.mk b27 (0 : Nat) none) (66 : Nat) = some cs36 ∧
 storeP (some (66 : Nat)) h32 (Addr.mk b0 (0 : Nat) none) (Value.agg cs36) fun (h37 : Heap) =>
 ∃ (cs38 : Array Value),
 row h37 (Addr.mk b0 (0 : Nat) none) (66 : Nat) = some cs38 ∧
 R (Value.tuple #[Value.agg cs38, Value.int IntKind.i64 (0 : Int)]) h37)) ∧
 newBlk h14 (28 : Nat)
 (List.toArray (Value.int IntKind.i64 (0 : Int) :: Value.int IntKind.i64 (0 : Int) :: List.replicate (64 : Nat) (Value.int IntKind.u8 (0 : Int))))
 fun (b39 : Nat) (h40 : Heap) =>
 CallsH Tryz.prog n_wire_Reader_Plain #[Value.pointer p6, Value.int IntKind.i64 (32 : Int)] h40 fun (v41 : Value) (h42 : Heap) =>
 ∃ (p43 : Option Addr),
 ∃ (l44 : Nat),
 ∃ (c45 : Nat),
 v41 = Value.slice p43 l44 c45 ∧
 (32 : Nat) ≤ l44 ∧
 deref p43 fun (a46 : Addr) =>
 ∃ (cs47 : Array Value),
 row h42 a46 (32 : Nat) = some cs47 ∧
 Array.size cs19 = (32 : Nat) ∧
 Array.size cs47 = (32 : Nat) ∧
 storeP (some (66 : Nat)) h42 (Addr.mk b39 (0 : Nat) none)
 (Value.agg
 (List.toArray
 (Value.int IntKind.i64 (IntKind.wrap IntKind.i64 n9) ::
 Value.int IntKind.i64 (IntKind.wrap IntKind.i64 n12) :: (Array.toList cs19 ++ (Array.toList cs47 ++ [])))))
 fun (h48 : Heap) =>
 ∃ (cs49 : Array Value),
 row h48 (Addr.mk b39 (0 : Nat) none) (66 : Nat) = some cs49 ∧
 CallsH Tryz.prog n_head_Head_is #[Value.agg cs49] h48 fun (v50 : Value) (h51 : Heap) =>
 Ext h48 h51 ∧
 ∃ (t52 : Bool),
 v50 = Value.bool t52 ∧
 br (!t52)
 (storeP (some (66 : Nat)) h51 (Addr.mk b0 (0 : Nat) none)
 (Value.agg
 (List.toArray
 (Value.int IntKind.i64 (0 : Int) ::
 Value.int IntKind.i64 (0 : Int) :: List.replicate (64 : Nat) (Value.int IntKind.u8 (0 : Int)))))
 fun (h53 : Heap) =>
 ∃ (cs54 : Array Value),
 row h53 (Addr.mk b0 (0 : Nat) none) (66 : Nat) = some cs54 ∧
 R (Value.tuple #[Value.agg cs54, Value.int IntKind.i64 (2 : Int)]) h53)
 (∃ (cs55 : Array Value),
 row h51 (Addr.mk b39 (0 : Nat) none) (66 : Nat) = some cs55 ∧
 storeP (some (66 : Nat)) h51 (Addr.mk b0 (0 : Nat) none) (Value.agg cs55) fun (h56 : Heap) =>
 ∃ (cs57 : Array Value),
 row h56 (Addr.mk b0 (0 : Nat) none) (66 : Nat) = some cs57 ∧
 R (Value.tuple #[Value.agg cs57, Value.int IntKind.i64 (0 : Int)]) h56)) ∧
 (CallsH Tryz.prog n_wire_Reader_Plain #[Value.pointer p6, Value.int IntKind.i64 (32 : Int)] h14 fun (v58 : Value) (h59 : Heap) =>
 ∃ (p60 : Option Addr),
 ∃ (l61 : Nat),
 ∃ (c62 : Nat),
 v58 = Value.slice p60 l61 c62 ∧
 ∃ (cs63 : Array Value),
 row h59 a18 (32 : Nat) = some cs63 ∧
 (32 : Nat) ≤ l61 ∧
 deref p60 fun (a64 : Addr) =>
 ∃ (cs65 : Array Value),
 row h59 a64 (32 : Nat) = some cs65 ∧
 Array.size cs63 = (32 : Nat) ∧
 Array.size cs65 = (32 : Nat) ∧
 newBlk h59 (28 : Nat)
 (List.toArray
 (Value.int IntKind.i64 (0 : Int) ::
 Value.int IntKind.i64 (0 : Int) :: List.replicate (64 : Nat) (Value.int IntKind.u8 (0 : Int))))
 fun (b66 : Nat) (h67 : Heap) =>
 storeP (some (66 : Nat)) h67 (Addr.mk b66 (0 : Nat) none)
 (Value.agg
 (List.toArray
 (Value.int IntKind.i64 (IntKind.wrap IntKind.i64 n9) ::
 Value.int IntKind.i64 (IntKind.wrap IntKind.i64 n12) :: (Array.toList cs63 ++ (Array.toList cs65 ++ [])))))
 fun (h68 : Heap) =>
 ∃ (cs69 : Array Value),
 row h68 (Addr.mk b66 (0 : Nat) none) (66 : Nat) = some cs69 ∧
 CallsH Tryz.prog n_head_Head_is #[Value.agg cs69] h68 fun (v70 : Value) (h71 : Heap) =>
 Ext h68 h71 ∧
 ∃ (t72 : Bool),
 v70 = Value.bool t72 ∧
 br (!t72)
 (storeP (some (66 : Nat)) h71 (Addr.mk b0 (0 : Nat) none)
 (Value.agg
 (List.toArray
 (Value.int IntKind.i64 (0 : Int) ::
 Value.int IntKind.i64 (0 : Int) :: List.replicate (64 : Nat) (Value.int IntKind.u8 (0 : Int)))))
 fun (h73 : Heap) =>
 ∃ (cs74 : Array Value),
 row h73 (Addr.mk b0 (0 : Nat) none) (66 : Nat) = some cs74 ∧
 R (Value.tuple #[Value.agg cs74, Value.int IntKind.i64 (2 : Int)]) h73)
 (∃ (cs75 : Array Value),
 row h71 (Addr.mk b66 (0 : Nat) none) (66 : Nat) = some cs75 ∧
 storeP (some (66 : Nat)) h71 (Addr.mk b0 (0 : Nat) none) (Value.agg cs75) fun (h76 : Heap) =>
 ∃ (cs77 : Array Value),
 row h76 (Addr.mk b0 (0 : Nat) none) (66 : Nat) = some cs77 ∧
 R (Value.tuple #[Value.agg cs77, Value.int IntKind.i64 (0 : Int)]) h76)) ∧
 newBlk h14 (28 : Nat)
 (List.toArray (Value.int IntKind.i64 (0 : Int) :: Value.int IntKind.i64 (0 : Int) :: List.replicate (64 : Nat) (Value.int IntKind.u8 (0 : Int))))
 fun (b78 : Nat) (h79 : Heap) =>
 (∃ (cs80 : Array Value),
 row h79 a18 (32 : Nat) = some cs80 ∧
 CallsH Tryz.prog n_wire_Reader_Plain #[Value.pointer p6, Value.int IntKind.i64 (32 : Int)] h79 fun (v81 : Value) (h82 : Heap) =>
 ∃ (p83 : Option Addr),
 ∃ (l84 : Nat),
 ∃ (c85 : Nat),
 v81 = Value.slice p83 l84 c85 ∧
 (32 : Nat) ≤ l84 ∧
 deref p83 fun (a86 : Addr) =>
 ∃ (cs87 : Array Value),
 row h82 a86 (32 : Nat) = some cs87 ∧
 Array.size cs80 = (32 : Nat) ∧
 Array.size cs87 = (32 : Nat) ∧
 storeP (some (66 : Nat)) h82 (Addr.mk b78 (0 : Nat) none)
 (Value.agg
 (List.toArray
 (Value.int IntKind.i64 (IntKind.wrap IntKind.i64 n9) ::
 Value.int IntKind.i64 (IntKind.wrap IntKind.i64 n12) :: (Array.toList cs80 ++ (Array.toList cs87 ++ [])))))
 fun (h88 : Heap) =>
 ∃ (cs89 : Array Value),
 row h88 (Addr.mk b78 (0 : Nat) none) (66 : Nat) = some cs89 ∧
 CallsH Tryz.prog n_head_Head_is #[Value.agg cs89] h88 fun (v90 : Value) (h91 : Heap) =>
 Ext h88 h91 ∧
 ∃ (t92 : Bool),
 v90 = Value.bool t92 ∧
 br (!t92)
 (storeP (some (66 : Nat)) h91 (Addr.mk b0 (0 : Nat) none)
 (Value.agg
 (List.toArray
 (Value.int IntKind.i64 (0 : Int) ::
 Value.int IntKind.i64 (0 : Int) :: List.replicate (64 : Nat) (Value.int IntKind.u8 (0 : Int)))))
 fun (h93 : Heap) =>
 ∃ (cs94 : Array Value),
 row h93 (Addr.mk b0 (0 : Nat) none) (66 : Nat) = some cs94 ∧
 R (Value.tuple #[Value.agg cs94, Value.int IntKind.i64 (2 : Int)]) h93)
 (∃ (cs95 : Array Value),
 row h91 (Addr.mk b78 (0 : Nat) none) (66 : Nat) = some cs95 ∧
 storeP (some (66 : Nat)) h91 (Addr.mk b0 (0 : Nat) none) (Value.agg cs95) fun (h96 : Heap) =>
 ∃ (cs97 : Array Value),
 row h96 (Addr.mk b0 (0 : Nat) none) (66 : Nat) = some cs97 ∧
 R (Value.tuple #[Value.agg cs97, Value.int IntKind.i64 (0 : Int)]) h96)) ∧
 CallsH Tryz.prog n_wire_Reader_Plain #[Value.pointer p6, Value.int IntKind.i64 (32 : Int)] h79 fun (v98 : Value) (h99 : Heap) =>
 ∃ (p100 : Option Addr),
 ∃ (l101 : Nat),
 ∃ (c102 : Nat),
 v98 = Value.slice p100 l101 c102 ∧
 ∃ (cs103 : Array Value),
 row h99 a18 (32 : Nat) = some cs103 ∧
 (32 : Nat) ≤ l101 ∧
 deref p100 fun (a104 : Addr) =>
 ∃ (cs105 : Array Value),
 row h99 a104 (32 : Nat) = some cs105 ∧
 Array.size cs103 = (32 : Nat) ∧
 Array.size cs105 = (32 : Nat) ∧
 storeP (some (66 : Nat)) h99 (Addr.mk b78 (0 : Nat) none)
 (Value.agg
 (List.toArray
 (Value.int IntKind.i64 (IntKind.wrap IntKind.i64 n9) ::
 Value.int IntKind.i64 (IntKind.wrap IntKind.i64 n12) :: (Array.toList cs103 ++ (Array.toList cs105 ++ [])))))
 fun (h106 : Heap) =>
 ∃ (cs107 : Array Value),
 row h106 (Addr.mk b78 (0 : Nat) none) (66 : Nat) = some cs107 ∧
 CallsH Tryz.prog n_head_Head_is #[Value.agg cs107] h106 fun (v108 : Value) (h109 : Heap) =>
 Ext h106 h109 ∧
 ∃ (t110 : Bool),
 v108 = Value.bool t110 ∧
 br (!t110)
 (storeP (some (66 : Nat)) h109 (Addr.mk b0 (0 : Nat) none)
 (Value.agg
 (List.toArray
 (Value.int IntKind.i64 (0 : Int) ::
 Value.int IntKind.i64 (0 : Int) :: List.replicate (64 : Nat) (Value.int IntKind.u8 (0 : Int)))))
 fun (h111 : Heap) =>
 ∃ (cs112 : Array Value),
 row h111 (Addr.mk b0 (0 : Nat) none) (66 : Nat) = some cs112 ∧
 R (Value.tuple #[Value.agg cs112, Value.int IntKind.i64 (2 : Int)]) h111)
 (∃ (cs113 : Array Value),
 row h109 (Addr.mk b78 (0 : Nat) none) (66 : Nat) = some cs113 ∧
 storeP (some (66 : Nat)) h109 (Addr.mk b0 (0 : Nat) none) (Value.agg cs113) fun (h114 : Heap) =>
 ∃ (cs115 : Array Value),
 row h114 (Addr.mk b0 (0 : Nat) none) (66 : Nat) = some cs115 ∧
 R (Value.tuple #[Value.agg cs115, Value.int IntKind.i64 (0 : Int)]) h114)) ∧
 newBlk h11 (28 : Nat) (List.toArray (Value.int IntKind.i64 (0 : Int) :: Value.int IntKind.i64 (0 : Int) :: List.replicate (64 : Nat) (Value.int IntKind.u8 (0 : Int))))
 fun (b116 : Nat) (h117 : Heap) =>
 CallsH Tryz.prog n_wire_Reader_Plain #[Value.pointer p6, Value.int IntKind.i64 (32 : Int)] h117 fun (v118 : Value) (h119 : Heap) =>
 ∃ (p120 : Option Addr),
 ∃ (l121 : Nat),
 ∃ (c122 : Nat),
 v118 = Value.slice p120 l121 c122 ∧
 (32 : Nat) ≤ l121 ∧
 deref p120 fun (a123 : Addr) =>
 (∃ (cs124 : Array Value),
 row h119 a123 (32 : Nat) = some cs124 ∧
 CallsH Tryz.prog n_wire_Reader_Plain #[Value.pointer p6, Value.int IntKind.i64 (32 : Int)] h119 fun (v125 : Value) (h126 : Heap) =>
 ∃ (p127 : Option Addr),
 ∃ (l128 : Nat),
 ∃ (c129 : Nat),
 v125 = Value.slice p127 l128 c129 ∧
 (32 : Nat) ≤ l128 ∧
 deref p127 fun (a130 : Addr) =>
 ∃ (cs131 : Array Value),
 row h126 a130 (32 : Nat) = some cs131 ∧
 Array.size cs124 = (32 : Nat) ∧
 Array.size cs131 = (32 : Nat) ∧
 storeP (some (66 : Nat)) h126 (Addr.mk b116 (0 : Nat) none)
 (Value.agg
 (List.toArray
 (Value.int IntKind.i64 (IntKind.wrap IntKind.i64 n9) ::
 Value.int IntKind.i64 (IntKind.wrap IntKind.i64 n12) :: (Array.toList cs124 ++ (Array.toList cs131 ++ [])))))
 fun (h132 : Heap) =>
 ∃ (cs133 : Array Value),
 row h132 (Addr.mk b116 (0 : Nat) none) (66 : Nat) = some cs133 ∧
 CallsH Tryz.prog n_head_Head_is #[Value.agg cs133] h132 fun (v134 : Value) (h135 : Heap) =>
 Ext h132 h135 ∧
 ∃ (t136 : Bool),
 v134 = Value.bool t136 ∧
 br (!t136)
 (storeP (some (66 : Nat)) h135 (Addr.mk b0 (0 : Nat) none)
 (Value.agg
 (List.toArray
 (Value.int IntKind.i64 (0 : Int) ::
 Value.int IntKind.i64 (0 : Int) :: List.replicate (64 : Nat) (Value.int IntKind.u8 (0 : Int)))))
 fun (h137 : Heap) =>
 ∃ (cs138 : Array Value),
 row h137 (Addr.mk b0 (0 : Nat) none) (66 : Nat) = some cs138 ∧
 R (Value.tuple #[Value.agg cs138, Value.int IntKind.i64 (2 : Int)]) h137)
 (∃ (cs139 : Array Value),
 row h135 (Addr.mk b116 (0 : Nat) none) (66 : Nat) = some cs139 ∧
 storeP (some (66 : Nat)) h135 (Addr.mk b0 (0 : Nat) none) (Value.agg cs139) fun (h140 : Heap) =>
 ∃ (cs141 : Array Value),
 row h140 (Addr.mk b0 (0 : Nat) none) (66 : Nat) = some cs141 ∧
 R (Value.tuple #[Value.agg cs141, Value.int IntKind.i64 (0 : Int)]) h140)) ∧
 CallsH Tryz.prog n_wire_Reader_Plain #[Value.pointer p6, Value.int IntKind.i64 (32 : Int)] h119 fun (v142 : Value) (h143 : Heap) =>
 ∃ (p144 : Option Addr),
 ∃ (l145 : Nat),
 ∃ (c146 : Nat),
 v142 = Value.slice p144 l145 c146 ∧
 ∃ (cs147 : Array Value),
 row h143 a123 (32 : Nat) = some cs147 ∧
 (32 : Nat) ≤ l145 ∧
 deref p144 fun (a148 : Addr) =>
 ∃ (cs149 : Array Value),
 row h143 a148 (32 : Nat) = some cs149 ∧
 Array.size cs147 = (32 : Nat) ∧
 Array.size cs149 = (32 : Nat) ∧
 storeP (some (66 : Nat)) h143 (Addr.mk b116 (0 : Nat) none)
 (Value.agg
 (List.toArray
 (Value.int IntKind.i64 (IntKind.wrap IntKind.i64 n9) ::
 Value.int IntKind.i64 (IntKind.wrap IntKind.i64 n12) :: (Array.toList cs147 ++ (Array.toList cs149 ++ [])))))
 fun (h150 : Heap) =>
 ∃ (cs151 : Array Value),
 row h150 (Addr.mk b116 (0 : Nat) none) (66 : Nat) = some cs151 ∧
 CallsH Tryz.prog n_head_Head_is #[Value.agg cs151] h150 fun (v152 : Value) (h153 : Heap) =>
 Ext h150 h153 ∧
 ∃ (t154 : Bool),
 v152 = Value.bool t154 ∧
 br (!t154)
 (storeP (some (66 : Nat)) h153 (Addr.mk b0 (0 : Nat) none)
 (Value.agg
 (List.toArray
 (Value.int IntKind.i64 (0 : Int) ::
 Value.int IntKind.i64 (0 : Int) :: List.replicate (64 : Nat) (Value.int IntKind.u8 (0 : Int)))))
 fun (h155 : Heap) =>
 ∃ (cs156 : Array Value),
 row h155 (Addr.mk b0 (0 : Nat) none) (66 : Nat) = some cs156 ∧
 R (Value.tuple #[Value.agg cs156, Value.int IntKind.i64 (2 : Int)]) h155)
 (∃ (cs157 : Array Value),
 row h153 (Addr.mk b116 (0 : Nat) none) (66 : Nat) = some cs157 ∧
 storeP (some (66 : Nat)) h153 (Addr.mk b0 (0 : Nat) none) (Value.agg cs157) fun (h158 : Heap) =>
 ∃ (cs159 : Array Value),
 row h158 (Addr.mk b0 (0 : Nat) none) (66 : Nat) = some cs159 ∧
 R (Value.tuple #[Value.agg cs159, Value.int IntKind.i64 (0 : Int)]) h158)) ∧
 newBlk h8 (28 : Nat) (List.toArray (Value.int IntKind.i64 (0 : Int) :: Value.int IntKind.i64 (0 : Int) :: List.replicate (64 : Nat) (Value.int IntKind.u8 (0 : Int))))
 fun (b160 : Nat) (h161 : Heap) =>
 CallsH Tryz.prog n_wire_Reader_U32 #[Value.pointer p6] h161 fun (v162 : Value) (h163 : Heap) =>
 ∃ (n164 : Int),
 v162 = Value.int IntKind.u32 n164 ∧
 CallsH Tryz.prog n_wire_Reader_Plain #[Value.pointer p6, Value.int IntKind.i64 (32 : Int)] h163 fun (v165 : Value) (h166 : Heap) =>
 ∃ (p167 : Option Addr),
 ∃ (l168 : Nat),
 ∃ (c169 : Nat),
 v165 = Value.slice p167 l168 c169 ∧
 (32 : Nat) ≤ l168 ∧
 deref p167 fun (a170 : Addr) =>
 (∃ (cs171 : Array Value),
 row h166 a170 (32 : Nat) = some cs171 ∧
 CallsH Tryz.prog n_wire_Reader_Plain #[Value.pointer p6, Value.int IntKind.i64 (32 : Int)] h166 fun (v172 : Value) (h173 : Heap) =>
 ∃ (p174 : Option Addr),
 ∃ (l175 : Nat),
 ∃ (c176 : Nat),
 v172 = Value.slice p174 l175 c176 ∧
 (32 : Nat) ≤ l175 ∧
 deref p174 fun (a177 : Addr) =>
 ∃ (cs178 : Array Value),
 row h173 a177 (32 : Nat) = some cs178 ∧
 Array.size cs171 = (32 : Nat) ∧
 Array.size cs178 = (32 : Nat) ∧
 storeP (some (66 : Nat)) h173 (Addr.mk b160 (0 : Nat) none)
 (Value.agg
 (List.toArray
 (Value.int IntKind.i64 (IntKind.wrap IntKind.i64 n9) ::
 Value.int IntKind.i64 (IntKind.wrap IntKind.i64 n164) :: (Array.toList cs171 ++ (Array.toList cs178 ++ [])))))
 fun (h179 : Heap) =>
 ∃ (cs180 : Array Value),
 row h179 (Addr.mk b160 (0 : Nat) none) (66 : Nat) = some cs180 ∧
 CallsH Tryz.prog n_head_Head_is #[Value.agg cs180] h179 fun (v181 : Value) (h182 : Heap) =>
 Ext h179 h182 ∧
 ∃ (t183 : Bool),
 v181 = Value.bool t183 ∧
 br (!t183)
 (storeP (some (66 : Nat)) h182 (Addr.mk b0 (0 : Nat) none)
 (Value.agg
 (List.toArray
 (Value.int IntKind.i64 (0 : Int) ::
 Value.int IntKind.i64 (0 : Int) :: List.replicate (64 : Nat) (Value.int IntKind.u8 (0 : Int)))))
 fun (h184 : Heap) =>
 ∃ (cs185 : Array Value),
 row h184 (Addr.mk b0 (0 : Nat) none) (66 : Nat) = some cs185 ∧
 R (Value.tuple #[Value.agg cs185, Value.int IntKind.i64 (2 : Int)]) h184)
 (∃ (cs186 : Array Value),
 row h182 (Addr.mk b160 (0 : Nat) none) (66 : Nat) = some cs186 ∧
 storeP (some (66 : Nat)) h182 (Addr.mk b0 (0 : Nat) none) (Value.agg cs186) fun (h187 : Heap) =>
 ∃ (cs188 : Array Value),
 row h187 (Addr.mk b0 (0 : Nat) none) (66 : Nat) = some cs188 ∧
 R (Value.tuple #[Value.agg cs188, Value.int IntKind.i64 (0 : Int)]) h187)) ∧
 CallsH Tryz.prog n_wire_Reader_Plain #[Value.pointer p6, Value.int IntKind.i64 (32 : Int)] h166 fun (v189 : Value) (h190 : Heap) =>
 ∃ (p191 : Option Addr),
 ∃ (l192 : Nat),
 ∃ (c193 : Nat),
 v189 = Value.slice p191 l192 c193 ∧
 ∃ (cs194 : Array Value),
 row h190 a170 (32 : Nat) = some cs194 ∧
 (32 : Nat) ≤ l192 ∧
 deref p191 fun (a195 : Addr) =>
 ∃ (cs196 : Array Value),
 row h190 a195 (32 : Nat) = some cs196 ∧
 Array.size cs194 = (32 : Nat) ∧
 Array.size cs196 = (32 : Nat) ∧
 storeP (some (66 : Nat)) h190 (Addr.mk b160 (0 : Nat) none)
 (Value.agg
 (List.toArray
 (Value.int IntKind.i64 (IntKind.wrap IntKind.i64 n9) ::
 Value.int IntKind.i64 (IntKind.wrap IntKind.i64 n164) :: (Array.toList cs194 ++ (Array.toList cs196 ++ [])))))
 fun (h197 : Heap) =>
 ∃ (cs198 : Array Value),
 row h197 (Addr.mk b160 (0 : Nat) none) (66 : Nat) = some cs198 ∧
 CallsH Tryz.prog n_head_Head_is #[Value.agg cs198] h197 fun (v199 : Value) (h200 : Heap) =>
 Ext h197 h200 ∧
 ∃ (t201 : Bool),
 v199 = Value.bool t201 ∧
 br (!t201)
 (storeP (some (66 : Nat)) h200 (Addr.mk b0 (0 : Nat) none)
 (Value.agg
 (List.toArray
 (Value.int IntKind.i64 (0 : Int) ::
 Value.int IntKind.i64 (0 : Int) :: List.replicate (64 : Nat) (Value.int IntKind.u8 (0 : Int)))))
 fun (h202 : Heap) =>
 ∃ (cs203 : Array Value),
 row h202 (Addr.mk b0 (0 : Nat) none) (66 : Nat) = some cs203 ∧
 R (Value.tuple #[Value.agg cs203, Value.int IntKind.i64 (2 : Int)]) h202)
 (∃ (cs204 : Array Value),
 row h200 (Addr.mk b160 (0 : Nat) none) (66 : Nat) = some cs204 ∧
 storeP (some (66 : Nat)) h200 (Addr.mk b0 (0 : Nat) none) (Value.agg cs204) fun (h205 : Heap) =>
 ∃ (cs206 : Array Value),
 row h205 (Addr.mk b0 (0 : Nat) none) (66 : Nat) = some cs206 ∧
 R (Value.tuple #[Value.agg cs206, Value.int IntKind.i64 (0 : Int)]) h205)) ∧
 newBlk h5 (28 : Nat) (List.toArray (Value.int IntKind.i64 (0 : Int) :: Value.int IntKind.i64 (0 : Int) :: List.replicate (64 : Nat) (Value.int IntKind.u8 (0 : Int))))
 fun (b207 : Nat) (h208 : Heap) =>
 CallsH Tryz.prog n_wire_Reader_U32 #[Value.pointer p6] h208 fun (v209 : Value) (h210 : Heap) =>
 ∃ (n211 : Int),
 v209 = Value.int IntKind.u32 n211 ∧
 CallsH Tryz.prog n_wire_Reader_U32 #[Value.pointer p6] h210 fun (v212 : Value) (h213 : Heap) =>
 ∃ (n214 : Int),
 v212 = Value.int IntKind.u32 n214 ∧
 CallsH Tryz.prog n_wire_Reader_Plain #[Value.pointer p6, Value.int IntKind.i64 (32 : Int)] h213 fun (v215 : Value) (h216 : Heap) =>
 ∃ (p217 : Option Addr),
 ∃ (l218 : Nat),
 ∃ (c219 : Nat),
 v215 = Value.slice p217 l218 c219 ∧
 (32 : Nat) ≤ l218 ∧
 deref p217 fun (a220 : Addr) =>
 (∃ (cs221 : Array Value),
 row h216 a220 (32 : Nat) = some cs221 ∧
 CallsH Tryz.prog n_wire_Reader_Plain #[Value.pointer p6, Value.int IntKind.i64 (32 : Int)] h216 fun (v222 : Value) (h223 : Heap) =>
 ∃ (p224 : Option Addr),
 ∃ (l225 : Nat),
 ∃ (c226 : Nat),
 v222 = Value.slice p224 l225 c226 ∧
 (32 : Nat) ≤ l225 ∧
 deref p224 fun (a227 : Addr) =>
 ∃ (cs228 : Array Value),
 row h223 a227 (32 : Nat) = some cs228 ∧
 Array.size cs221 = (32 : Nat) ∧
 Array.size cs228 = (32 : Nat) ∧
 storeP (some (66 : Nat)) h223 (Addr.mk b207 (0 : Nat) none)
 (Value.agg
 (List.toArray
 (Value.int IntKind.i64 (IntKind.wrap IntKind.i64 n211) ::
 Value.int IntKind.i64 (IntKind.wrap IntKind.i64 n214) :: (Array.toList cs221 ++ (Array.toList cs228 ++ [])))))
 fun (h229 : Heap) =>
 ∃ (cs230 : Array Value),
 row h229 (Addr.mk b207 (0 : Nat) none) (66 : Nat) = some cs230 ∧
 CallsH Tryz.prog n_head_Head_is #[Value.agg cs230] h229 fun (v231 : Value) (h232 : Heap) =>
 Ext h229 h232 ∧
 ∃ (t233 : Bool),
 v231 = Value.bool t233 ∧
 br (!t233)
 (storeP (some (66 : Nat)) h232 (Addr.mk b0 (0 : Nat) none)
 (Value.agg
 (List.toArray
 (Value.int IntKind.i64 (0 : Int) ::
 Value.int IntKind.i64 (0 : Int) :: List.replicate (64 : Nat) (Value.int IntKind.u8 (0 : Int)))))
 fun (h234 : Heap) =>
 ∃ (cs235 : Array Value),
 row h234 (Addr.mk b0 (0 : Nat) none) (66 : Nat) = some cs235 ∧
 R (Value.tuple #[Value.agg cs235, Value.int IntKind.i64 (2 : Int)]) h234)
 (∃ (cs236 : Array Value),
 row h232 (Addr.mk b207 (0 : Nat) none) (66 : Nat) = some cs236 ∧
 storeP (some (66 : Nat)) h232 (Addr.mk b0 (0 : Nat) none) (Value.agg cs236) fun (h237 : Heap) =>
 ∃ (cs238 : Array Value),
 row h237 (Addr.mk b0 (0 : Nat) none) (66 : Nat) = some cs238 ∧
 R (Value.tuple #[Value.agg cs238, Value.int IntKind.i64 (0 : Int)]) h237)) ∧
 CallsH Tryz.prog n_wire_Reader_Plain #[Value.pointer p6, Value.int IntKind.i64 (32 : Int)] h216 fun (v239 : Value) (h240 : Heap) =>
 ∃ (p241 : Option Addr),
 ∃ (l242 : Nat),
 ∃ (c243 : Nat),
 v239 = Value.slice p241 l242 c243 ∧
 ∃ (cs244 : Array Value),
 row h240 a220 (32 : Nat) = some cs244 ∧
 (32 : Nat) ≤ l242 ∧
 deref p241 fun (a245 : Addr) =>
 ∃ (cs246 : Array Value),
 row h240 a245 (32 : Nat) = some cs246 ∧
 Array.size cs244 = (32 : Nat) ∧
 Array.size cs246 = (32 : Nat) ∧
 storeP (some (66 : Nat)) h240 (Addr.mk b207 (0 : Nat) none)
 (Value.agg
 (List.toArray
 (Value.int IntKind.i64 (IntKind.wrap IntKind.i64 n211) ::
 Value.int IntKind.i64 (IntKind.wrap IntKind.i64 n214) :: (Array.toList cs244 ++ (Array.toList cs246 ++ [])))))
 fun (h247 : Heap) =>
 ∃ (cs248 : Array Value),
 row h247 (Addr.mk b207 (0 : Nat) none) (66 : Nat) = some cs248 ∧
 CallsH Tryz.prog n_head_Head_is #[Value.agg cs248] h247 fun (v249 : Value) (h250 : Heap) =>
 Ext h247 h250 ∧
 ∃ (t251 : Bool),
 v249 = Value.bool t251 ∧
 br (!t251)
 (storeP (some (66 : Nat)) h250 (Addr.mk b0 (0 : Nat) none)
 (Value.agg
 (List.toArray
 (Value.int IntKind.i64 (0 : Int) ::
 Value.int IntKind.i64 (0 : Int) :: List.replicate (64 : Nat) (Value.int IntKind.u8 (0 : Int)))))
 fun (h252 : Heap) =>
 ∃ (cs253 : Array Value),
 row h252 (Addr.mk b0 (0 : Nat) none) (66 : Nat) = some cs253 ∧
 R (Value.tuple #[Value.agg cs253, Value.int IntKind.i64 (2 : Int)]) h252)
 (∃ (cs254 : Array Value),
 row h250 (Addr.mk b207 (0 : Nat) none) (66 : Nat) = some cs254 ∧
 storeP (some (66 : Nat)) h250 (Addr.mk b0 (0 : Nat) none) (Value.agg cs254) fun (h255 : Heap) =>
 ∃ (cs256 : Array Value),
 row h255 (Addr.mk b0 (0 : Nat) none) (66 : Nat) = some cs256 ∧
 R (Value.tuple #[Value.agg cs256, Value.int IntKind.i64 (0 : Int)]) h255))
theorem C_head_Decode (b : Option Addr) (b_l : Nat) (b_c : Nat) {h : Heap} {R : Value → Heap → Prop} (H : F_head_Decode b b_l b_c h R) : CallsH Tryz.prog n_head_Decode [(.slice b b_l b_c)].toArray h R :=
  fn_sound (A := A_head_Decode) (Eq.mp (by kernel_rfl : F_head_Decode b b_l b_c h R = fnVc Go.Proofs.Tryz.prog A_head_Decode 86 [(.slice b b_l b_c)] h R) H)

/- rolodex/head.Take -/
def A_head_Take : Ann := { qs := [4, 5, 6, 7, 8, 9, 10, 11, 13, 14, 16, 17, 18, 19, 20, 21, 22, 23, 24, 25, 27, 37, 38, 41, 42, 58, 59, 60, 61, 62, 81, 86, 93, 94, 98, 106, 108, 109, 110, 112] }
def F_head_Take (r : Option Addr) (h : Heap) (R : Value → Heap → Prop) : Prop :=
 newBlk h (30 : Nat)
 (List.toArray (Value.int IntKind.i64 (0 : Int) :: Value.int IntKind.i64 (0 : Int) :: (List.replicate (64 : Nat) (Value.int IntKind.u8 (0 : Int)) ++ [Value.slice none (0 : Nat) (0 : Nat)])))
 fun (b0 : Nat) (h1 : Heap) =>
 CallsH Tryz.prog n_wire_Reader_Plain #[Value.pointer r, Value.int IntKind.i64 (72 : Int)] h1 fun (v2 : Value) (h3 : Heap) =>
 ∃ (p4 : Option Addr),
 ∃ (l5 : Nat),
 ∃ (c6 : Nat),
 v2 = Value.slice p4 l5 c6 ∧
 CallsH Tryz.prog n_head_Decode #[Value.slice p4 l5 c6] h3 fun (v7 : Value) (h8 : Heap) =>
 Ext h3 h8 ∧
 ∃ (cs9 : Array Value),
 Array.size cs9 = (66 : Nat) ∧
 ∃ (n10 : Int),
 v7 = Value.tuple #[Value.agg cs9, Value.int IntKind.i64 n10] ∧
 newBlk h8 (28 : Nat) (List.toArray (Value.int IntKind.i64 (0 : Int) :: Value.int IntKind.i64 (0 : Int) :: List.replicate (64 : Nat) (Value.int IntKind.u8 (0 : Int))))
 fun (b11 : Nat) (h12 : Heap) =>
 storeP (some (66 : Nat)) h12 (Addr.mk b11 (0 : Nat) none) (Value.agg cs9) fun (h13 : Heap) =>
 br (n10 != (0 : Int))
 (CallsH Tryz.prog n_wire_Reader_Plain #[Value.pointer r, Value.int IntKind.i64 (-1 : Int)] h13 fun (v14 : Value) (h15 : Heap) =>
 ∃ (p16 : Option Addr),
 ∃ (l17 : Nat),
 ∃ (c18 : Nat),
 v14 = Value.slice p16 l17 c18 ∧
 storeP (some (67 : Nat)) h15 (Addr.mk b0 (0 : Nat) none)
 (Value.agg
 (List.toArray
 (Value.int IntKind.i64 (0 : Int) ::
 Value.int IntKind.i64 (0 : Int) :: (List.replicate (64 : Nat) (Value.int IntKind.u8 (0 : Int)) ++ [Value.slice none (0 : Nat) (0 : Nat)]))))
 fun (h19 : Heap) => ∃ (cs20 : Array Value), row h19 (Addr.mk b0 (0 : Nat) none) (67 : Nat) = some cs20 ∧ R (Value.agg cs20) h19)
 (CallsH Tryz.prog n_wire_Reader_String #[Value.pointer r, Value.int IntKind.i64 (8192 : Int)] h13 fun (v21 : Value) (h22 : Heap) =>
 ∃ (p23 : Option Addr),
 ∃ (l24 : Nat),
 ∃ (c25 : Nat),
 v21 = Value.slice p23 l24 c25 ∧
 CallsH Tryz.prog n_wire_Reader_Fails #[Value.pointer r] h22 fun (v26 : Value) (h27 : Heap) =>
 Ext h22 h27 ∧
 ∃ (t28 : Bool),
 v26 = Value.bool t28 ∧
 br t28
 (storeP (some (67 : Nat)) h27 (Addr.mk b0 (0 : Nat) none)
 (Value.agg
 (List.toArray
 (Value.int IntKind.i64 (0 : Int) ::
 Value.int IntKind.i64 (0 : Int) :: (List.replicate (64 : Nat) (Value.int IntKind.u8 (0 : Int)) ++ [Value.slice none (0 : Nat) (0 : Nat)]))))
 fun (h29 : Heap) => ∃ (cs30 : Array Value), row h29 (Addr.mk b0 (0 : Nat) none) (67 : Nat) = some cs30 ∧ R (Value.agg cs30) h29)
 (∃ (cs31 : Array Value),
 row h27 (Addr.mk b11 (0 : Nat) none) (66 : Nat) = some cs31 ∧
 Array.size cs31 = (66 : Nat) ∧
 storeP (some (67 : Nat)) h27 (Addr.mk b0 (0 : Nat) none) (Value.agg (List.toArray (Array.toList cs31 ++ [Value.slice p23 l24 c25])))
 fun (h32 : Heap) => ∃ (cs33 : Array Value), row h32 (Addr.mk b0 (0 : Nat) none) (67 : Nat) = some cs33 ∧ R (Value.agg cs33) h32))
theorem C_head_Take (r : Option Addr) {h : Heap} {R : Value → Heap → Prop} (H : F_head_Take r h R) : CallsH Tryz.prog n_head_Take [(.pointer r)].toArray h R :=
  fn_sound (A := A_head_Take) (Eq.mp (by kernel_rfl : F_head_Take r h R = fnVc Go.Proofs.Tryz.prog A_head_Take 47 [(.pointer r)] h R) H)

/- rolodex/message.items[rolodex/api.Hash] -/
def A_message_items_api_Hash : Ann := { qs := [4, 5, 6, 7, 8, 9, 10, 11, 13, 14, 16, 17, 18, 19, 20, 21, 22, 23, 24, 25, 27, 37, 38, 41, 42, 58, 59, 60, 61, 62, 81, 86, 93, 94, 98, 106, 108, 109, 110, 112], loops := [(3, [(5, .slice), (12, (.int .i64))])] }
def F_message_items_api_Hash (x : Option Addr) (h : Heap) (R : Value → Heap → Prop) : Prop :=
 deref x fun (a0 : Addr) =>
 ∃ (p1 : Option Addr),
 cell h (Addr.add a0 (0 : Nat)) = some (Value.pointer p1) ∧
 CallsH Tryz.prog n_wire_Reader_Count #[Value.pointer p1, Value.int IntKind.i64 (4096 : Int)] h fun (v2 : Value) (h3 : Heap) =>
 ∃ (n4 : Int),
 v2 = Value.int IntKind.i64 n4 ∧
 ∃ (I5 : (Option Addr × Nat × Nat) × Int → Heap → Prop),
 ∃ (μ6 : (Option Addr × Nat × Nat) × Int → Heap → Nat),
 I5 ((none, (0 : Nat), (0 : Nat)), (0 : Int)) h3 ∧
 ∀ (s7 : (Option Addr × Nat × Nat) × Int) (h8 : Heap),
 I5 s7 h8 →
 br (decide (Prod.snd s7 < n4))
 (CallsH Tryz.prog n_message_decoder_hash #[Value.pointer x] h8 fun (v9 : Value) (h10 : Heap) =>
 ∃ (cs11 : Array Value),
 Array.size cs11 = (32 : Nat) ∧
 v9 = Value.agg cs11 ∧
 newBlk h10 (26 : Nat) (List.toArray (List.replicate (32 : Nat) (Value.int IntKind.u8 (0 : Int)))) fun (b12 : Nat) (h13 : Heap) =>
 storeP (some (32 : Nat)) h13 (Addr.mk b12 (0 : Nat) none) (Value.agg cs11) fun (h14 : Heap) =>
 deref x fun (a15 : Addr) =>
 ∃ (p16 : Option Addr),
 cell h14 (Addr.add a15 (0 : Nat)) = some (Value.pointer p16) ∧
 CallsH Tryz.prog n_wire_Reader_Fails #[Value.pointer p16] h14 fun (v17 : Value) (h18 : Heap) =>
 Ext h14 h18 ∧
 ∃ (t19 : Bool),
 v17 = Value.bool t19 ∧
 br t19 (R (Value.slice none (0 : Nat) (0 : Nat)) h18)
 (∃ (cs20 : Array Value),
 row h18 (Addr.mk b12 (0 : Nat) none) (32 : Nat) = some cs20 ∧
 Array.size cs20 = (32 : Nat) ∧
 newBlk h18 (26 : Nat) (List.toArray (Array.toList cs20 ++ [])) fun (b21 : Nat) (h22 : Heap) =>
 appendP (26 : Nat) (32 : Nat) (32 : Nat) (List.toArray (List.replicate (32 : Nat) (Value.int IntKind.u8 (0 : Int))))
 (Prod.fst (Prod.fst s7)) (Prod.fst (Prod.snd (Prod.fst s7))) (Prod.snd (Prod.snd (Prod.fst s7))) (some (Addr.mk b21 (0 : Nat) none))
 (1 : Nat) h22 fun (p23 : Option Addr) (l24 c25 : Nat) (h26 : Heap) =>
 I5 ((p23, l24, c25), IntKind.wrap IntKind.i64 (Prod.snd s7 + (1 : Int))) h26 ∧
 μ6 ((p23, l24, c25), IntKind.wrap IntKind.i64 (Prod.snd s7 + (1 : Int))) h26 < μ6 s7 h8))
 (R (Value.slice (Prod.fst (Prod.fst s7)) (Prod.fst (Prod.snd (Prod.fst s7))) (Prod.snd (Prod.snd (Prod.fst s7)))) h8)
theorem C_message_items_api_Hash (x : Option Addr) {h : Heap} {R : Value → Heap → Prop} (H : F_message_items_api_Hash x h R) : CallsH Tryz.prog n_message_items_api_Hash [(.pointer x), (.func (.func 49) #[.pointer x] #[])].toArray h R :=
  fn_sound (A := A_message_items_api_Hash) (Eq.mp (by kernel_rfl : F_message_items_api_Hash x h R = fnVc Go.Proofs.Tryz.prog A_message_items_api_Hash 57 [(.pointer x), (.func (.func 49) #[.pointer x] #[])] h R) H)

/- rolodex/message.items[rolodex/proof.Step] -/
def A_message_items_proof_Step : Ann := { qs := [4, 5, 6, 7, 8, 9, 10, 11, 13, 14, 16, 17, 18, 19, 20, 21, 22, 23, 24, 25, 27, 37, 38, 41, 42, 58, 59, 60, 61, 62, 81, 86, 93, 94, 98, 106, 108, 109, 110, 112], loops := [(3, [(5, .slice), (12, (.int .i64))])] }
def F_message_items_proof_Step (x : Option Addr) (h : Heap) (R : Value → Heap → Prop) : Prop :=
 deref x fun (a0 : Addr) =>
 ∃ (p1 : Option Addr),
 cell h (Addr.add a0 (0 : Nat)) = some (Value.pointer p1) ∧
 CallsH Tryz.prog n_wire_Reader_Count #[Value.pointer p1, Value.int IntKind.i64 (4096 : Int)] h fun (v2 : Value) (h3 : Heap) =>
 ∃ (n4 : Int),
 v2 = Value.int IntKind.i64 n4 ∧
 ∃ (I5 : (Option Addr × Nat × Nat) × Int → Heap → Prop),
 ∃ (μ6 : (Option Addr × Nat × Nat) × Int → Heap → Nat),
 I5 ((none, (0 : Nat), (0 : Nat)), (0 : Int)) h3 ∧
 ∀ (s7 : (Option Addr × Nat × Nat) × Int) (h8 : Heap),
 I5 s7 h8 →
 br (decide (Prod.snd s7 < n4))
 (CallsH Tryz.prog n_message_decoder_step #[Value.pointer x] h8 fun (v9 : Value) (h10 : Heap) =>
 ∃ (cs11 : Array Value),
 Array.size cs11 = (65 : Nat) ∧
 v9 = Value.agg cs11 ∧
 newBlk h10 (126 : Nat) (List.toArray (Value.int IntKind.i64 (0 : Int) :: List.replicate (64 : Nat) (Value.int IntKind.u8 (0 : Int)))) fun (b12 : Nat) (h13 : Heap) =>
 storeP (some (65 : Nat)) h13 (Addr.mk b12 (0 : Nat) none) (Value.agg cs11) fun (h14 : Heap) =>
 deref x fun (a15 : Addr) =>
 ∃ (p16 : Option Addr),
 cell h14 (Addr.add a15 (0 : Nat)) = some (Value.pointer p16) ∧
 CallsH Tryz.prog n_wire_Reader_Fails #[Value.pointer p16] h14 fun (v17 : Value) (h18 : Heap) =>
 Ext h14 h18 ∧
 ∃ (t19 : Bool),
 v17 = Value.bool t19 ∧
 br t19 (R (Value.slice none (0 : Nat) (0 : Nat)) h18)
 (∃ (cs20 : Array Value),
 row h18 (Addr.mk b12 (0 : Nat) none) (65 : Nat) = some cs20 ∧
 Array.size cs20 = (65 : Nat) ∧
 newBlk h18 (126 : Nat) (List.toArray (Array.toList cs20 ++ [])) fun (b21 : Nat) (h22 : Heap) =>
 appendP (126 : Nat) (65 : Nat) (72 : Nat)
 (List.toArray (Value.int IntKind.i64 (0 : Int) :: List.replicate (64 : Nat) (Value.int IntKind.u8 (0 : Int)))) (Prod.fst (Prod.fst s7))
 (Prod.fst (Prod.snd (Prod.fst s7))) (Prod.snd (Prod.snd (Prod.fst s7))) (some (Addr.mk b21 (0 : Nat) none)) (1 : Nat) h22
 fun (p23 : Option Addr) (l24 c25 : Nat) (h26 : Heap) =>
 I5 ((p23, l24, c25), IntKind.wrap IntKind.i64 (Prod.snd s7 + (1 : Int))) h26 ∧
 μ6 ((p23, l24, c25), IntKind.wrap IntKind.i64 (Prod.snd s7 + (1 : Int))) h26 < μ6 s7 h8))
 (R (Value.slice (Prod.fst (Prod.fst s7)) (Prod.fst (Prod.snd (Prod.fst s7))) (Prod.snd (Prod.snd (Prod.fst s7)))) h8)
theorem C_message_items_proof_Step (x : Option Addr) {h : Heap} {R : Value → Heap → Prop} (H : F_message_items_proof_Step x h R) : CallsH Tryz.prog n_message_items_proof_Step [(.pointer x), (.func (.func 89) #[.pointer x] #[])].toArray h R :=
  fn_sound (A := A_message_items_proof_Step) (Eq.mp (by kernel_rfl : F_message_items_proof_Step x h R = fnVc Go.Proofs.Tryz.prog A_message_items_proof_Step 88 [(.pointer x), (.func (.func 89) #[.pointer x] #[])] h R) H)

/- rolodex/message.items[rolodex/chain.Version] -/
def A_message_items_chain_Version : Ann := { qs := [4, 5, 6, 7, 8, 9, 10, 11, 13, 14, 16, 17, 18, 19, 20, 21, 22, 23, 24, 25, 27, 37, 38, 41, 42, 58, 59, 60, 61, 62, 81, 86, 93, 94, 98, 106, 108, 109, 110, 112], loops := [(3, [(5, .slice), (12, (.int .i64))])] }
def F_message_items_chain_Version (x : Option Addr) (h : Heap) (R : Value → Heap → Prop) : Prop :=
 deref x fun (a0 : Addr) =>
 ∃ (p1 : Option Addr),
 cell h (Addr.add a0 (0 : Nat)) = some (Value.pointer p1) ∧
 CallsH Tryz.prog n_wire_Reader_Count #[Value.pointer p1, Value.int IntKind.i64 (4096 : Int)] h fun (v2 : Value) (h3 : Heap) =>
 ∃ (n4 : Int),
 v2 = Value.int IntKind.i64 n4 ∧
 ∃ (I5 : (Option Addr × Nat × Nat) × Int → Heap → Prop),
 ∃ (μ6 : (Option Addr × Nat × Nat) × Int → Heap → Nat),
 I5 ((none, (0 : Nat), (0 : Nat)), (0 : Int)) h3 ∧
 ∀ (s7 : (Option Addr × Nat × Nat) × Int) (h8 : Heap),
 I5 s7 h8 →
 br (decide (Prod.snd s7 < n4))
 (CallsH Tryz.prog n_message_decoder_version #[Value.pointer x] h8 fun (v9 : Value) (h10 : Heap) =>
 ∃ (cs11 : Array Value),
 Array.size cs11 = (67 : Nat) ∧
 v9 = Value.agg cs11 ∧
 newBlk h10 (70 : Nat)
 (List.toArray
 (Value.int IntKind.i64 (0 : Int) ::
 Value.int IntKind.i64 (0 : Int) :: (List.replicate (64 : Nat) (Value.int IntKind.u8 (0 : Int)) ++ [Value.slice none (0 : Nat) (0 : Nat)])))
 fun (b12 : Nat) (h13 : Heap) =>
 storeP (some (67 : Nat)) h13 (Addr.mk b12 (0 : Nat) none) (Value.agg cs11) fun (h14 : Heap) =>
 deref x fun (a15 : Addr) =>
 ∃ (p16 : Option Addr),
 cell h14 (Addr.add a15 (0 : Nat)) = some (Value.pointer p16) ∧
 CallsH Tryz.prog n_wire_Reader_Fails #[Value.pointer p16] h14 fun (v17 : Value) (h18 : Heap) =>
 Ext h14 h18 ∧
 ∃ (t19 : Bool),
 v17 = Value.bool t19 ∧
 br t19 (R (Value.slice none (0 : Nat) (0 : Nat)) h18)
 (∃ (cs20 : Array Value),
 row h18 (Addr.mk b12 (0 : Nat) none) (67 : Nat) = some cs20 ∧
 Array.size cs20 = (67 : Nat) ∧
 newBlk h18 (70 : Nat) (List.toArray (Array.toList cs20 ++ [])) fun (b21 : Nat) (h22 : Heap) =>
 appendP (70 : Nat) (67 : Nat) (104 : Nat)
 (List.toArray
 (Value.int IntKind.i64 (0 : Int) ::
 Value.int IntKind.i64 (0 : Int) ::
 (List.replicate (64 : Nat) (Value.int IntKind.u8 (0 : Int)) ++ [Value.slice none (0 : Nat) (0 : Nat)])))
 (Prod.fst (Prod.fst s7)) (Prod.fst (Prod.snd (Prod.fst s7))) (Prod.snd (Prod.snd (Prod.fst s7))) (some (Addr.mk b21 (0 : Nat) none))
 (1 : Nat) h22 fun (p23 : Option Addr) (l24 c25 : Nat) (h26 : Heap) =>
 I5 ((p23, l24, c25), IntKind.wrap IntKind.i64 (Prod.snd s7 + (1 : Int))) h26 ∧
 μ6 ((p23, l24, c25), IntKind.wrap IntKind.i64 (Prod.snd s7 + (1 : Int))) h26 < μ6 s7 h8))
 (R (Value.slice (Prod.fst (Prod.fst s7)) (Prod.fst (Prod.snd (Prod.fst s7))) (Prod.snd (Prod.snd (Prod.fst s7)))) h8)
theorem C_message_items_chain_Version (x : Option Addr) {h : Heap} {R : Value → Heap → Prop} (H : F_message_items_chain_Version x h R) : CallsH Tryz.prog n_message_items_chain_Version [(.pointer x), (.func (.func 52) #[.pointer x] #[])].toArray h R :=
  fn_sound (A := A_message_items_chain_Version) (Eq.mp (by kernel_rfl : F_message_items_chain_Version x h R = fnVc Go.Proofs.Tryz.prog A_message_items_chain_Version 51 [(.pointer x), (.func (.func 52) #[.pointer x] #[])] h R) H)

/- rolodex/message.items[rolodex/delta.Row] -/
def A_message_items_delta_Row : Ann := { qs := [4, 5, 6, 7, 8, 9, 10, 11, 13, 14, 16, 17, 18, 19, 20, 21, 22, 23, 24, 25, 27, 37, 38, 41, 42, 58, 59, 60, 61, 62, 81, 86, 93, 94, 98, 106, 108, 109, 110, 112], loops := [(3, [(5, .slice), (12, (.int .i64))])] }
def F_message_items_delta_Row (x : Option Addr) (h : Heap) (R : Value → Heap → Prop) : Prop :=
 deref x fun (a0 : Addr) =>
 ∃ (p1 : Option Addr),
 cell h (Addr.add a0 (0 : Nat)) = some (Value.pointer p1) ∧
 CallsH Tryz.prog n_wire_Reader_Count #[Value.pointer p1, Value.int IntKind.i64 (4096 : Int)] h fun (v2 : Value) (h3 : Heap) =>
 ∃ (n4 : Int),
 v2 = Value.int IntKind.i64 n4 ∧
 ∃ (I5 : (Option Addr × Nat × Nat) × Int → Heap → Prop),
 ∃ (μ6 : (Option Addr × Nat × Nat) × Int → Heap → Nat),
 I5 ((none, (0 : Nat), (0 : Nat)), (0 : Int)) h3 ∧
 ∀ (s7 : (Option Addr × Nat × Nat) × Int) (h8 : Heap),
 I5 s7 h8 →
 br (decide (Prod.snd s7 < n4))
 (CallsH Tryz.prog n_message_decoder_row #[Value.pointer x] h8 fun (v9 : Value) (h10 : Heap) =>
 ∃ (cs11 : Array Value),
 Array.size cs11 = (162 : Nat) ∧
 v9 = Value.agg cs11 ∧
 newBlk h10 (74 : Nat)
 (List.toArray
 (Value.bool false ::
 (List.replicate (64 : Nat) (Value.int IntKind.u8 (0 : Int)) ++ Value.int IntKind.i64 (0 : Int) :: List.replicate (96 : Nat) (Value.int IntKind.u8 (0 : Int)))))
 fun (b12 : Nat) (h13 : Heap) =>
 storeP (some (162 : Nat)) h13 (Addr.mk b12 (0 : Nat) none) (Value.agg cs11) fun (h14 : Heap) =>
 deref x fun (a15 : Addr) =>
 ∃ (p16 : Option Addr),
 cell h14 (Addr.add a15 (0 : Nat)) = some (Value.pointer p16) ∧
 CallsH Tryz.prog n_wire_Reader_Fails #[Value.pointer p16] h14 fun (v17 : Value) (h18 : Heap) =>
 Ext h14 h18 ∧
 ∃ (t19 : Bool),
 v17 = Value.bool t19 ∧
 br t19 (R (Value.slice none (0 : Nat) (0 : Nat)) h18)
 (∃ (cs20 : Array Value),
 row h18 (Addr.mk b12 (0 : Nat) none) (162 : Nat) = some cs20 ∧
 Array.size cs20 = (162 : Nat) ∧
 newBlk h18 (74 : Nat) (List.toArray (Array.toList cs20 ++ [])) fun (b21 : Nat) (h22 : Heap) =>
 appendP (74 : Nat) (162 : Nat) (176 : Nat)
 (List.toArray
 (Value.bool false ::
 (List.replicate (64 : Nat) (Value.int IntKind.u8 (0 : Int)) ++
 Value.int IntKind.i64 (0 : Int) :: List.replicate (96 : Nat) (Value.int IntKind.u8 (0 : Int)))))
 (Prod.fst (Prod.fst s7)) (Prod.fst (Prod.snd (Prod.fst s7))) (Prod.snd (Prod.snd (Prod.fst s7))) (some (Addr.mk b21 (0 : Nat) none))
 (1 : Nat) h22 fun (p23 : Option Addr) (l24 c25 : Nat) (h26 : Heap) =>
 I5 ((p23, l24, c25), IntKind.wrap IntKind.i64 (Prod.snd s7 + (1 : Int))) h26 ∧
 μ6 ((p23, l24, c25), IntKind.wrap IntKind.i64 (Prod.snd s7 + (1 : Int))) h26 < μ6 s7 h8))
 (R (Value.slice (Prod.fst (Prod.fst s7)) (Prod.fst (Prod.snd (Prod.fst s7))) (Prod.snd (Prod.snd (Prod.fst s7)))) h8)
theorem C_message_items_delta_Row (x : Option Addr) {h : Heap} {R : Value → Heap → Prop} (H : F_message_items_delta_Row x h R) : CallsH Tryz.prog n_message_items_delta_Row [(.pointer x), (.func (.func 54) #[.pointer x] #[])].toArray h R :=
  fn_sound (A := A_message_items_delta_Row) (Eq.mp (by kernel_rfl : F_message_items_delta_Row x h R = fnVc Go.Proofs.Tryz.prog A_message_items_delta_Row 53 [(.pointer x), (.func (.func 54) #[.pointer x] #[])] h R) H)

/- rolodex/message.items[rolodex/message.News] -/
def A_message_items_message_News : Ann := { qs := [4, 5, 6, 7, 8, 9, 10, 11, 13, 14, 16, 17, 18, 19, 20, 21, 22, 23, 24, 25, 27, 37, 38, 41, 42, 58, 59, 60, 61, 62, 81, 86, 93, 94, 98, 106, 108, 109, 110, 112], loops := [(3, [(5, .slice), (12, (.int .i64))])] }
def F_message_items_message_News (x : Option Addr) (h : Heap) (R : Value → Heap → Prop) : Prop :=
 deref x fun (a0 : Addr) =>
 ∃ (p1 : Option Addr),
 cell h (Addr.add a0 (0 : Nat)) = some (Value.pointer p1) ∧
 CallsH Tryz.prog n_wire_Reader_Count #[Value.pointer p1, Value.int IntKind.i64 (4096 : Int)] h fun (v2 : Value) (h3 : Heap) =>
 ∃ (n4 : Int),
 v2 = Value.int IntKind.i64 n4 ∧
 ∃ (I5 : (Option Addr × Nat × Nat) × Int → Heap → Prop),
 ∃ (μ6 : (Option Addr × Nat × Nat) × Int → Heap → Nat),
 I5 ((none, (0 : Nat), (0 : Nat)), (0 : Int)) h3 ∧
 ∀ (s7 : (Option Addr × Nat × Nat) × Int) (h8 : Heap),
 I5 s7 h8 →
 br (decide (Prod.snd s7 < n4))
 (CallsH Tryz.prog n_message_decoder_news #[Value.pointer x] h8 fun (v9 : Value) (h10 : Heap) =>
 ∃ (cs11 : Array Value),
 Array.size cs11 = (68 : Nat) ∧
 v9 = Value.agg cs11 ∧
 newBlk h10 (77 : Nat)
 (List.toArray
 (Value.slice none (0 : Nat) (0 : Nat) ::
 Value.int IntKind.i64 (0 : Int) ::
 Value.int IntKind.i64 (0 : Int) :: (List.replicate (64 : Nat) (Value.int IntKind.u8 (0 : Int)) ++ [Value.slice none (0 : Nat) (0 : Nat)])))
 fun (b12 : Nat) (h13 : Heap) =>
 storeP (some (68 : Nat)) h13 (Addr.mk b12 (0 : Nat) none) (Value.agg cs11) fun (h14 : Heap) =>
 deref x fun (a15 : Addr) =>
 ∃ (p16 : Option Addr),
 cell h14 (Addr.add a15 (0 : Nat)) = some (Value.pointer p16) ∧
 CallsH Tryz.prog n_wire_Reader_Fails #[Value.pointer p16] h14 fun (v17 : Value) (h18 : Heap) =>
 Ext h14 h18 ∧
 ∃ (t19 : Bool),
 v17 = Value.bool t19 ∧
 br t19 (R (Value.slice none (0 : Nat) (0 : Nat)) h18)
 (∃ (cs20 : Array Value),
 row h18 (Addr.mk b12 (0 : Nat) none) (68 : Nat) = some cs20 ∧
 Array.size cs20 = (68 : Nat) ∧
 newBlk h18 (77 : Nat) (List.toArray (Array.toList cs20 ++ [])) fun (b21 : Nat) (h22 : Heap) =>
 appendP (77 : Nat) (68 : Nat) (128 : Nat)
 (List.toArray
 (Value.slice none (0 : Nat) (0 : Nat) ::
 Value.int IntKind.i64 (0 : Int) ::
 Value.int IntKind.i64 (0 : Int) ::
 (List.replicate (64 : Nat) (Value.int IntKind.u8 (0 : Int)) ++ [Value.slice none (0 : Nat) (0 : Nat)])))
 (Prod.fst (Prod.fst s7)) (Prod.fst (Prod.snd (Prod.fst s7))) (Prod.snd (Prod.snd (Prod.fst s7))) (some (Addr.mk b21 (0 : Nat) none))
 (1 : Nat) h22 fun (p23 : Option Addr) (l24 c25 : Nat) (h26 : Heap) =>
 I5 ((p23, l24, c25), IntKind.wrap IntKind.i64 (Prod.snd s7 + (1 : Int))) h26 ∧
 μ6 ((p23, l24, c25), IntKind.wrap IntKind.i64 (Prod.snd s7 + (1 : Int))) h26 < μ6 s7 h8))
 (R (Value.slice (Prod.fst (Prod.fst s7)) (Prod.fst (Prod.snd (Prod.fst s7))) (Prod.snd (Prod.snd (Prod.fst s7)))) h8)
theorem C_message_items_message_News (x : Option Addr) {h : Heap} {R : Value → Heap → Prop} (H : F_message_items_message_News x h R) : CallsH Tryz.prog n_message_items_message_News [(.pointer x), (.func (.func 56) #[.pointer x] #[])].toArray h R :=
  fn_sound (A := A_message_items_message_News) (Eq.mp (by kernel_rfl : F_message_items_message_News x h R = fnVc Go.Proofs.Tryz.prog A_message_items_message_News 55 [(.pointer x), (.func (.func 56) #[.pointer x] #[])] h R) H)

/- (*rolodex/message.decoder).field -/
def A_message_decoder_field : Ann := { qs := [4, 5, 6, 7, 8, 9, 10, 11, 13, 14, 16, 17, 18, 19, 20, 21, 22, 23, 24, 25, 27, 37, 38, 41, 42, 58, 59, 60, 61, 62, 81, 86, 93, 94, 98, 106, 108, 109, 110, 112] }
def F_message_decoder_field (x : Option Addr) (m : Option Addr) (f : Int) (h : Heap) (R : Value → Heap → Prop) : Prop :=
 br (f == (0 : Int))
 (CallsH Tryz.prog n_message_decoder_number #[Value.pointer x] h fun (v0 : Value) (h1 : Heap) =>
 ∃ (n2 : Int),
 v0 = Value.int IntKind.i64 n2 ∧
 deref m fun (a3 : Addr) => storeP none h1 (Addr.mk (Addr.block a3) (Addr.off a3 + (1 : Nat)) none) (Value.int IntKind.i64 n2) fun (h4 : Heap) => R (Value.tuple #[]) h4)
 (br (f == (1 : Int))
 (CallsH Tryz.prog n_message_decoder_number #[Value.pointer x] h fun (v5 : Value) (h6 : Heap) =>
 ∃ (n7 : Int),
 v5 = Value.int IntKind.i64 n7 ∧
 deref m fun (a8 : Addr) => storeP none h6 (Addr.mk (Addr.block a8) (Addr.off a8 + (2 : Nat)) none) (Value.int IntKind.i64 n7) fun (h9 : Heap) => R (Value.tuple #[]) h9)
 (br (f == (2 : Int))
 (CallsH Tryz.prog n_message_decoder_number #[Value.pointer x] h fun (v10 : Value) (h11 : Heap) =>
 ∃ (n12 : Int),
 v10 = Value.int IntKind.i64 n12 ∧
 deref m fun (a13 : Addr) => storeP none h11 (Addr.mk (Addr.block a13) (Addr.off a13 + (3 : Nat)) none) (Value.int IntKind.i64 n12) fun (h14 : Heap) => R (Value.tuple #[]) h14)
 (br (f == (3 : Int))
 (CallsH Tryz.prog n_message_decoder_number #[Value.pointer x] h fun (v15 : Value) (h16 : Heap) =>
 ∃ (n17 : Int),
 v15 = Value.int IntKind.i64 n17 ∧
 deref m fun (a18 : Addr) => storeP none h16 (Addr.mk (Addr.block a18) (Addr.off a18 + (4 : Nat)) none) (Value.int IntKind.i64 n17) fun (h19 : Heap) => R (Value.tuple #[]) h19)
 (br (f == (4 : Int))
 (CallsH Tryz.prog n_message_decoder_number #[Value.pointer x] h fun (v20 : Value) (h21 : Heap) =>
 ∃ (n22 : Int),
 v20 = Value.int IntKind.i64 n22 ∧
 deref m fun (a23 : Addr) => storeP none h21 (Addr.mk (Addr.block a23) (Addr.off a23 + (5 : Nat)) none) (Value.int IntKind.i64 n22) fun (h24 : Heap) => R (Value.tuple #[]) h24)
 (br (f == (5 : Int))
 (CallsH Tryz.prog n_message_decoder_error #[Value.pointer x] h fun (v25 : Value) (h26 : Heap) =>
 ∃ (n27 : Int),
 v25 = Value.int IntKind.i64 n27 ∧
 deref m fun (a28 : Addr) => storeP none h26 (Addr.mk (Addr.block a28) (Addr.off a28 + (6 : Nat)) none) (Value.int IntKind.i64 n27) fun (h29 : Heap) => R (Value.tuple #[]) h29)
 (br (f == (6 : Int))
 (CallsH Tryz.prog n_message_decoder_text #[Value.pointer x] h fun (v30 : Value) (h31 : Heap) =>
 ∃ (p32 : Option Addr),
 ∃ (l33 : Nat),
 ∃ (c34 : Nat),
 v30 = Value.slice p32 l33 c34 ∧
 deref m fun (a35 : Addr) => storeP none h31 (Addr.mk (Addr.block a35) (Addr.off a35 + (7 : Nat)) none) (Value.slice p32 l33 c34) fun (h36 : Heap) => R (Value.tuple #[]) h36)
 (br (f == (7 : Int))
 (CallsH Tryz.prog n_message_decoder_text #[Value.pointer x] h fun (v37 : Value) (h38 : Heap) =>
 ∃ (p39 : Option Addr),
 ∃ (l40 : Nat),
 ∃ (c41 : Nat),
 v37 = Value.slice p39 l40 c41 ∧
 deref m fun (a42 : Addr) => storeP none h38 (Addr.mk (Addr.block a42) (Addr.off a42 + (8 : Nat)) none) (Value.slice p39 l40 c41) fun (h43 : Heap) => R (Value.tuple #[]) h43)
 (br (f == (8 : Int))
 (deref x fun (a44 : Addr) =>
 ∃ (p45 : Option Addr),
 cell h (Addr.add a44 (0 : Nat)) = some (Value.pointer p45) ∧
 CallsH Tryz.prog n_head_Take #[Value.pointer p45] h fun (v46 : Value) (h47 : Heap) =>
 ∃ (cs48 : Array Value),
 Array.size cs48 = (67 : Nat) ∧
 v46 = Value.agg cs48 ∧
 deref m fun (a49 : Addr) =>
 storeP (some (67 : Nat)) h47 (Addr.mk (Addr.block a49) (Addr.off a49 + (9 : Nat)) none) (Value.agg cs48) fun (h50 : Heap) => R (Value.tuple #[]) h50)
 (br (f == (9 : Int))
 (CallsH Tryz.prog n_message_decoder_trail #[Value.pointer x] h fun (v51 : Value) (h52 : Heap) =>
 ∃ (cs53 : Array Value),
 Array.size cs53 = (2 : Nat) ∧
 v51 = Value.agg cs53 ∧
 deref m fun (a54 : Addr) =>
 storeP (some (2 : Nat)) h52 (Addr.mk (Addr.block a54) (Addr.off a54 + (76 : Nat)) none) (Value.agg cs53) fun (h55 : Heap) => R (Value.tuple #[]) h55)
 (br (f == (10 : Int))
 (CallsH Tryz.prog n_message_decoder_trail #[Value.pointer x] h fun (v56 : Value) (h57 : Heap) =>
 ∃ (cs58 : Array Value),
 Array.size cs58 = (2 : Nat) ∧
 v56 = Value.agg cs58 ∧
 deref m fun (a59 : Addr) =>
 storeP (some (2 : Nat)) h57 (Addr.mk (Addr.block a59) (Addr.off a59 + (78 : Nat)) none) (Value.agg cs58) fun (h60 : Heap) => R (Value.tuple #[]) h60)
 (br (f == (11 : Int))
 (CallsH Tryz.prog n_message_decoder_hash #[Value.pointer x] h fun (v61 : Value) (h62 : Heap) =>
 ∃ (cs63 : Array Value),
 Array.size cs63 = (32 : Nat) ∧
 v61 = Value.agg cs63 ∧
 deref m fun (a64 : Addr) =>
 storeP (some (32 : Nat)) h62 (Addr.mk (Addr.block a64) (Addr.off a64 + (80 : Nat)) none) (Value.agg cs63) fun (h65 : Heap) => R (Value.tuple #[]) h65)
 (br (f == (12 : Int))
 (CallsH Tryz.prog n_message_decoder_proof #[Value.pointer x] h fun (v66 : Value) (h67 : Heap) =>
 ∃ (cs68 : Array Value),
 Array.size cs68 = (163 : Nat) ∧
 v66 = Value.agg cs68 ∧
 deref m fun (a69 : Addr) =>
 storeP (some (163 : Nat)) h67 (Addr.mk (Addr.block a69) (Addr.off a69 + (112 : Nat)) none) (Value.agg cs68) fun (h70 : Heap) => R (Value.tuple #[]) h70)
 (br (f == (13 : Int))
 (CallsH Tryz.prog n_message_items_chain_Version #[Value.pointer x, Value.func (Fn.func (52 : Nat)) #[Value.pointer x] #[]] h fun (v71 : Value) (h72 : Heap) =>
 ∃ (p73 : Option Addr),
 ∃ (l74 : Nat),
 ∃ (c75 : Nat),
 v71 = Value.slice p73 l74 c75 ∧
 deref m fun (a76 : Addr) =>
 storeP none h72 (Addr.mk (Addr.block a76) (Addr.off a76 + (275 : Nat)) none) (Value.slice p73 l74 c75) fun (h77 : Heap) => R (Value.tuple #[]) h77)
 (br (f == (14 : Int))
 (CallsH Tryz.prog n_message_items_delta_Row #[Value.pointer x, Value.func (Fn.func (54 : Nat)) #[Value.pointer x] #[]] h fun (v78 : Value) (h79 : Heap) =>
 ∃ (p80 : Option Addr),
 ∃ (l81 : Nat),
 ∃ (c82 : Nat),
 v78 = Value.slice p80 l81 c82 ∧
 deref m fun (a83 : Addr) =>
 storeP none h79 (Addr.mk (Addr.block a83) (Addr.off a83 + (276 : Nat)) none) (Value.slice p80 l81 c82) fun (h84 : Heap) => R (Value.tuple #[]) h84)
 (br (f == (15 : Int))
 (CallsH Tryz.prog n_message_items_message_News #[Value.pointer x, Value.func (Fn.func (56 : Nat)) #[Value.pointer x] #[]] h fun (v85 : Value) (h86 : Heap) =>
 ∃ (p87 : Option Addr),
 ∃ (l88 : Nat),
 ∃ (c89 : Nat),
 v85 = Value.slice p87 l88 c89 ∧
 deref m fun (a90 : Addr) =>
 storeP none h86 (Addr.mk (Addr.block a90) (Addr.off a90 + (277 : Nat)) none) (Value.slice p87 l88 c89) fun (h91 : Heap) => R (Value.tuple #[]) h91)
 (br (f == (16 : Int))
 (CallsH Tryz.prog n_message_items_api_Hash #[Value.pointer x, Value.func (Fn.func (49 : Nat)) #[Value.pointer x] #[]] h fun (v92 : Value) (h93 : Heap) =>
 ∃ (p94 : Option Addr),
 ∃ (l95 : Nat),
 ∃ (c96 : Nat),
 v92 = Value.slice p94 l95 c96 ∧
 deref m fun (a97 : Addr) =>
 storeP none h93 (Addr.mk (Addr.block a97) (Addr.off a97 + (278 : Nat)) none) (Value.slice p94 l95 c96) fun (h98 : Heap) => R (Value.tuple #[]) h98)
 (R (Value.tuple #[]) h)))))))))))))))))
theorem C_message_decoder_field (x : Option Addr) (m : Option Addr) (f : Int) {h : Heap} {R : Value → Heap → Prop} (H : F_message_decoder_field x m f h R) : CallsH Tryz.prog n_message_decoder_field [(.pointer x), (.pointer m), (.int .i64 f)].toArray h R :=
  fn_sound (A := A_message_decoder_field) (Eq.mp (by kernel_rfl : F_message_decoder_field x m f h R = fnVc Go.Proofs.Tryz.prog A_message_decoder_field 15 [(.pointer x), (.pointer m), (.int .i64 f)] h R) H)

/- rolodex/message.Decode -/
def A_message_Decode : Ann := { qs := [4, 5, 6, 7, 8, 9, 10, 11, 13, 14, 16, 17, 18, 19, 20, 21, 22, 23, 24, 25, 27, 37, 38, 41, 42, 58, 59, 60, 61, 62, 81, 86, 93, 94, 98, 106, 108, 109, 110, 112], loops := [(7, [(27, (.int .i64))])] }
def F_message_Decode (b : Option Addr) (b_l : Nat) (b_c : Nat) (h : Heap) (R : Value → Heap → Prop) : Prop :=
 newBlk h (43 : Nat)
 (List.toArray
 (Value.int IntKind.i64 (0 : Int) ::
 Value.int IntKind.i64 (0 : Int) ::
 Value.int IntKind.i64 (0 : Int) ::
 Value.int IntKind.i64 (0 : Int) ::
 Value.int IntKind.i64 (0 : Int) ::
 Value.int IntKind.i64 (0 : Int) ::
 Value.int IntKind.i64 (0 : Int) ::
 Value.slice none (0 : Nat) (0 : Nat) ::
 Value.slice none (0 : Nat) (0 : Nat) ::
 Value.int IntKind.i64 (0 : Int) ::
 Value.int IntKind.i64 (0 : Int) ::
 (List.replicate (64 : Nat) (Value.int IntKind.u8 (0 : Int)) ++
 Value.slice none (0 : Nat) (0 : Nat) ::
 Value.slice none (0 : Nat) (0 : Nat) ::
 Value.slice none (0 : Nat) (0 : Nat) ::
 Value.slice none (0 : Nat) (0 : Nat) ::
 Value.slice none (0 : Nat) (0 : Nat) ::
 (List.replicate (32 : Nat) (Value.int IntKind.u8 (0 : Int)) ++
 Value.slice none (0 : Nat) (0 : Nat) ::
 Value.int IntKind.i64 (0 : Int) ::
 (List.replicate (64 : Nat) (Value.int IntKind.u8 (0 : Int)) ++
 Value.int IntKind.i64 (0 : Int) ::
 (List.replicate (96 : Nat) (Value.int IntKind.u8 (0 : Int)) ++
 [Value.slice none (0 : Nat) (0 : Nat), Value.slice none (0 : Nat) (0 : Nat), Value.slice none (0 : Nat) (0 : Nat),
 Value.slice none (0 : Nat) (0 : Nat)]))))))
 fun (b0 : Nat) (h1 : Heap) =>
 CallsH Tryz.prog n_wire_New #[Value.slice b b_l b_c] h1 fun (v2 : Value) (h3 : Heap) =>
 Ext h1 h3 ∧
 ∃ (p4 : Option Addr),
 v2 = Value.pointer p4 ∧
 newBlk h3 (58 : Nat) #[Value.pointer p4] fun (b5 : Nat) (h6 : Heap) =>
 ∃ (p7 : Option Addr),
 cell h6 (Addr.add (Addr.mk b5 (0 : Nat) none) (0 : Nat)) = some (Value.pointer p7) ∧
 CallsH Tryz.prog n_wire_Reader_U8 #[Value.pointer p7] h6 fun (v8 : Value) (h9 : Heap) =>
 ∃ (n10 : Int),
 v8 = Value.int IntKind.i64 n10 ∧
 newBlk h9 (43 : Nat)
 (List.toArray
 (Value.int IntKind.i64 (0 : Int) ::
 Value.int IntKind.i64 (0 : Int) ::
 Value.int IntKind.i64 (0 : Int) ::
 Value.int IntKind.i64 (0 : Int) ::
 Value.int IntKind.i64 (0 : Int) ::
 Value.int IntKind.i64 (0 : Int) ::
 Value.int IntKind.i64 (0 : Int) ::
 Value.slice none (0 : Nat) (0 : Nat) ::
 Value.slice none (0 : Nat) (0 : Nat) ::
 Value.int IntKind.i64 (0 : Int) ::
 Value.int IntKind.i64 (0 : Int) ::
 (List.replicate (64 : Nat) (Value.int IntKind.u8 (0 : Int)) ++
 Value.slice none (0 : Nat) (0 : Nat) ::
 Value.slice none (0 : Nat) (0 : Nat) ::
 Value.slice none (0 : Nat) (0 : Nat) ::
 Value.slice none (0 : Nat) (0 : Nat) ::
 Value.slice none (0 : Nat) (0 : Nat) ::
 (List.replicate (32 : Nat) (Value.int IntKind.u8 (0 : Int)) ++
 Value.slice none (0 : Nat) (0 : Nat) ::
 Value.int IntKind.i64 (0 : Int) ::
 (List.replicate (64 : Nat) (Value.int IntKind.u8 (0 : Int)) ++
 Value.int IntKind.i64 (0 : Int) ::
 (List.replicate (96 : Nat) (Value.int IntKind.u8 (0 : Int)) ++
 [Value.slice none (0 : Nat) (0 : Nat), Value.slice none (0 : Nat) (0 : Nat), Value.slice none (0 : Nat) (0 : Nat),
 Value.slice none (0 : Nat) (0 : Nat)]))))))
 fun (b11 : Nat) (h12 : Heap) =>
 storeP (some (279 : Nat)) h12 (Addr.mk b11 (0 : Nat) none)
 (Value.agg
 (List.toArray
 (Value.int IntKind.i64 n10 ::
 Value.int IntKind.i64 (0 : Int) ::
 Value.int IntKind.i64 (0 : Int) ::
 Value.int IntKind.i64 (0 : Int) ::
 Value.int IntKind.i64 (0 : Int) ::
 Value.int IntKind.i64 (0 : Int) ::
 Value.int IntKind.i64 (0 : Int) ::
 Value.slice none (0 : Nat) (0 : Nat) ::
 Value.slice none (0 : Nat) (0 : Nat) ::
 Value.int IntKind.i64 (0 : Int) ::
 Value.int IntKind.i64 (0 : Int) ::
 (List.replicate (64 : Nat) (Value.int IntKind.u8 (0 : Int)) ++
 Value.slice none (0 : Nat) (0 : Nat) ::
 Value.slice none (0 : Nat) (0 : Nat) ::
 Value.slice none (0 : Nat) (0 : Nat) ::
 Value.slice none (0 : Nat) (0 : Nat) ::
 Value.slice none (0 : Nat) (0 : Nat) ::
 (List.replicate (32 : Nat) (Value.int IntKind.u8 (0 : Int)) ++
 Value.slice none (0 : Nat) (0 : Nat) ::
 Value.int IntKind.i64 (0 : Int) ::
 (List.replicate (64 : Nat) (Value.int IntKind.u8 (0 : Int)) ++
 Value.int IntKind.i64 (0 : Int) ::
 (List.replicate (96 : Nat) (Value.int IntKind.u8 (0 : Int)) ++
 [Value.slice none (0 : Nat) (0 : Nat), Value.slice none (0 : Nat) (0 : Nat), Value.slice none (0 : Nat) (0 : Nat),
 Value.slice none (0 : Nat) (0 : Nat)])))))))
 fun (h13 : Heap) =>
 ∃ (n14 : Int),
 cell h13 (Addr.add (Addr.mk b11 (0 : Nat) none) (0 : Nat)) = some (Value.int IntKind.i64 n14) ∧
 CallsH Tryz.prog n_message_fields #[Value.int IntKind.i64 n14] h13 fun (v15 : Value) (h16 : Heap) =>
 Ext h13 h16 ∧
 ∃ (p17 : Option Addr),
 ∃ (l18 : Nat),
 ∃ (c19 : Nat),
 v15 = Value.slice p17 l18 c19 ∧
 br (Option.isNone p17)
 (storeP (some (279 : Nat)) h16 (Addr.mk b0 (0 : Nat) none)
 (Value.agg
 (List.toArray
 (Value.int IntKind.i64 (0 : Int) ::
 Value.int IntKind.i64 (0 : Int) ::
 Value.int IntKind.i64 (0 : Int) ::
 Value.int IntKind.i64 (0 : Int) ::
 Value.int IntKind.i64 (0 : Int) ::
 Value.int IntKind.i64 (0 : Int) ::
 Value.int IntKind.i64 (0 : Int) ::
 Value.slice none (0 : Nat) (0 : Nat) ::
 Value.slice none (0 : Nat) (0 : Nat) ::
 Value.int IntKind.i64 (0 : Int) ::
 Value.int IntKind.i64 (0 : Int) ::
 (List.replicate (64 : Nat) (Value.int IntKind.u8 (0 : Int)) ++
 Value.slice none (0 : Nat) (0 : Nat) ::
 Value.slice none (0 : Nat) (0 : Nat) ::
 Value.slice none (0 : Nat) (0 : Nat) ::
 Value.slice none (0 : Nat) (0 : Nat) ::
 Value.slice none (0 : Nat) (0 : Nat) ::
 (List.replicate (32 : Nat) (Value.int IntKind.u8 (0 : Int)) ++
 Value.slice none (0 : Nat) (0 : Nat) ::
 Value.int IntKind.i64 (0 : Int) ::
 (List.replicate (64 : Nat) (Value.int IntKind.u8 (0 : Int)) ++
 Value.int IntKind.i64 (0 : Int) ::
 (List.replicate (96 : Nat) (Value.int IntKind.u8 (0 : Int)) ++
 [Value.slice none (0 : Nat) (0 : Nat), Value.slice none (0 : Nat) (0 : Nat),
 Value.slice none (0 : Nat) (0 : Nat), Value.slice none (0 : Nat) (0 : Nat)])))))))
 fun (h20 : Heap) =>
 ∃ (cs21 : Array Value),
 row h20 (Addr.mk b0 (0 : Nat) none) (279 : Nat) = some cs21 ∧ R (Value.tuple #[Value.agg cs21, Value.int IntKind.i64 (2 : Int)]) h20)
 (∃ (I22 : Int → Heap → Prop),
 ∃ (μ23 : Int → Heap → Nat),
 I22 (0 : Int) h16 ∧
 ∀ (n24 : Int) (h25 : Heap),
 I22 n24 h25 →
 br (decide (n24 < (↑l18 : Int)))
 ((0 : Int) ≤ n24 ∧
 n24 < (↑l18 : Int) ∧
 deref p17 fun (a26 : Addr) =>
 ∃ (n27 : Int),
 cell h25 (Addr.add a26 (Int.toNat n24 * (1 : Nat))) = some (Value.int IntKind.i64 n27) ∧
 ∃ (cs28 : Array Value),
 row h25 (Addr.mk b11 (0 : Nat) none) (279 : Nat) = some cs28 ∧
 CallsH Tryz.prog n_message_Message_stops #[Value.agg cs28, Value.int IntKind.i64 n27] h25 fun (v29 : Value) (h30 : Heap) =>
 Ext h25 h30 ∧
 ∃ (t31 : Bool),
 v29 = Value.bool t31 ∧
 br t31
 (∃ (p32 : Option Addr),
 cell h30 (Addr.add (Addr.mk b5 (0 : Nat) none) (0 : Nat)) = some (Value.pointer p32) ∧
 CallsH Tryz.prog n_wire_Reader_Done #[Value.pointer p32] h30 fun (v33 : Value) (h34 : Heap) =>
 Ext h30 h34 ∧
 ∃ (t35 : Bool),
 v33 = Value.bool t35 ∧
 br (!t35)
 (storeP (some (279 : Nat)) h34 (Addr.mk b0 (0 : Nat) none)
 (Value.agg
 (List.toArray
 (Value.int IntKind.i64 (0 : Int) ::
 Value.int IntKind.i64 (0 : Int) ::
 Value.int IntKind.i64 (0 : Int) ::
 Value.int IntKind.i64 (0 : Int) ::
 Value.int IntKind.i64 (0 : Int) ::
 Value.int IntKind.i64 (0 : Int) ::
 Value.int IntKind.i64 (0 : Int) ::
 Value.slice none (0 : Nat) (0 : Nat) ::
 Value.slice none (0 : Nat) (0 : Nat) ::
 Value.int IntKind.i64 (0 : Int) ::
 Value.int IntKind.i64 (0 : Int) ::
 (List.replicate (64 : Nat) (Value.int IntKind.u8 (0 : Int)) ++
 Value.slice none (0 : Nat) (0 : Nat) ::
 Value.slice none (0 : Nat) (0 : Nat) ::
 Value.slice none (0 : Nat) (0 : Nat) ::
 Value.slice none (0 : Nat) (0 : Nat) ::
 Value.slice none (0 : Nat) (0 : Nat) ::
 (List.replicate (32 : Nat) (Value.int IntKind.u8 (0 : Int)) ++
 Value.slice none (0 : Nat) (0 : Nat) ::
 Value.int IntKind.i64 (0 : Int) ::
 (List.replicate (64 : Nat)
 (Value.int IntKind.u8 (0 : Int)) ++
 Value.int IntKind.i64 (0 : Int) ::
 (List.replicate (96 : Nat)
 (Value.int IntKind.u8 (0 : Int)) ++
 [Value.slice none (0 : Nat) (0 : Nat),
 Value.slice none (0 : Nat) (0 : Nat),
 Value.slice none (0 : Nat) (0 : Nat),
 Value.slice none (0 : Nat) (0 : Nat)])))))))
 fun (h36 : Heap) =>
 ∃ (cs37 : Array Value),
 row h36 (Addr.mk b0 (0 : Nat) none) (279 : Nat) = some cs37 ∧
 R (Value.tuple #[Value.agg cs37, Value.int IntKind.i64 (2 : Int)]) h36)
 (∃ (cs38 : Array Value),
 row h34 (Addr.mk b11 (0 : Nat) none) (279 : Nat) = some cs38 ∧
 storeP (some (279 : Nat)) h34 (Addr.mk b0 (0 : Nat) none) (Value.agg cs38) fun (h39 : Heap) =>
 ∃ (cs40 : Array Value),
 row h39 (Addr.mk b0 (0 : Nat) none) (279 : Nat) = some cs40 ∧
 R (Value.tuple #[Value.agg cs40, Value.int IntKind.i64 (0 : Int)]) h39))
 (CallsH Tryz.prog n_message_decoder_field
 #[Value.pointer (some (Addr.mk b5 (0 : Nat) none)), Value.pointer (some (Addr.mk b11 (0 : Nat) none)),
 Value.int IntKind.i64 n27]
 h30 fun (v41 : Value) (h42 : Heap) =>
 v41 = Value.tuple #[] ∧
 I22 (IntKind.wrap IntKind.i64 (n24 + (1 : Int))) h42 ∧
 μ23 (IntKind.wrap IntKind.i64 (n24 + (1 : Int))) h42 < μ23 n24 h25))
 (∃ (p43 : Option Addr),
 cell h25 (Addr.add (Addr.mk b5 (0 : Nat) none) (0 : Nat)) = some (Value.pointer p43) ∧
 CallsH Tryz.prog n_wire_Reader_Done #[Value.pointer p43] h25 fun (v44 : Value) (h45 : Heap) =>
 Ext h25 h45 ∧
 ∃ (t46 : Bool),
 v44 = Value.bool t46 ∧
 br (!t46)
 (storeP (some (279 : Nat)) h45 (Addr.mk b0 (0 : Nat) none)
 (Value.agg
 (List.toArray
 (Value.int IntKind.i64 (0 : Int) ::
 Value.int IntKind.i64 (0 : Int) ::
 Value.int IntKind.i64 (0 : Int) ::
 Value.int IntKind.i64 (0 : Int) ::
 Value.int IntKind.i64 (0 : Int) ::
 Value.int IntKind.i64 (0 : Int) ::
 Value.int IntKind.i64 (0 : Int) ::
 Value.slice none (0 : Nat) (0 : Nat) ::
 Value.slice none (0 : Nat) (0 : Nat) ::
 Value.int IntKind.i64 (0 : Int) ::
 Value.int IntKind.i64 (0 : Int) ::
 (List.replicate (64 : Nat) (Value.int IntKind.u8 (0 : Int)) ++
 Value.slice none (0 : Nat) (0 : Nat) ::
 Value.slice none (0 : Nat) (0 : Nat) ::
 Value.slice none (0 : Nat) (0 : Nat) ::
 Value.slice none (0 : Nat) (0 : Nat) ::
 Value.slice none (0 : Nat) (0 : Nat) ::
 (List.replicate (32 : Nat) (Value.int IntKind.u8 (0 : Int)) ++
 Value.slice none (0 : Nat) (0 : Nat) ::
 Value.int IntKind.i64 (0 : Int) ::
 (List.replicate (64 : Nat) (Value.int IntKind.u8 (0 : Int)) ++
 Value.int IntKind.i64 (0 : Int) ::
 (List.replicate (96 : Nat) (Value.int IntKind.u8 (0 : Int)) ++
 [Value.slice none (0 : Nat) (0 : Nat), Value.slice none (0 : Nat) (0 : Nat),
 Value.slice none (0 : Nat) (0 : Nat),
 Value.slice none (0 : Nat) (0 : Nat)])))))))
 fun (h47 : Heap) =>
 ∃ (cs48 : Array Value),
 row h47 (Addr.mk b0 (0 : Nat) none) (279 : Nat) = some cs48 ∧
 R (Value.tuple #[Value.agg cs48, Value.int IntKind.i64 (2 : Int)]) h47)
 (∃ (cs49 : Array Value),
 row h45 (Addr.mk b11 (0 : Nat) none) (279 : Nat) = some cs49 ∧
 storeP (some (279 : Nat)) h45 (Addr.mk b0 (0 : Nat) none) (Value.agg cs49) fun (h50 : Heap) =>
 ∃ (cs51 : Array Value),
 row h50 (Addr.mk b0 (0 : Nat) none) (279 : Nat) = some cs51 ∧
 R (Value.tuple #[Value.agg cs51, Value.int IntKind.i64 (0 : Int)]) h50)))
theorem C_message_Decode (b : Option Addr) (b_l : Nat) (b_c : Nat) {h : Heap} {R : Value → Heap → Prop} (H : F_message_Decode b b_l b_c h R) : CallsH Tryz.prog n_message_Decode [(.slice b b_l b_c)].toArray h R :=
  fn_sound (A := A_message_Decode) (Eq.mp (by kernel_rfl : F_message_Decode b b_l b_c h R = fnVc Go.Proofs.Tryz.prog A_message_Decode 5 [(.slice b b_l b_c)] h R) H)

end Go.Proofs.YthlmiijlhiiccaaGreat
