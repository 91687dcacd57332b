/- The formulas of some functions, and that each is what its code comes to. Written by a program of ours. -/
import Derived.Test.YthlmiijlhiiccaaGreatV
import Derived.Test.YthlmiijlhiiccaaGreatNm
import Derived.Test.YthlmiijlhiiccaaGreatProg
import Derived.KernelRfl
set_option linter.unusedVariables false
set_option maxRecDepth 100000
namespace Go.Proofs.YthlmiijlhiiccaaGreat
open Go Go.Vc Go.Proofs

/- bytes.Equal -/
def A_bytes_Equal : Ann := { qs := [4, 5, 6, 7, 8, 9, 10, 11, 13, 14, 16, 17, 18, 19, 20, 21, 22, 23, 24, 25, 27, 37, 38, 41, 42, 58, 59, 60, 61, 62, 81, 86, 93, 94, 98, 106, 108, 109, 110, 112] }
def F_bytes_Equal (a : Option Addr) (a_l : Nat) (a_c : Nat) (b : Option Addr) (b_l : Nat) (b_c : Nat) (h : Heap) (R : Value → Heap → Prop) : Prop :=
 ∃ (x0 : List UInt8),
 src h a a_l = some (List.toArray (bcs x0)) ∧
 ∃ (x1 : List UInt8), src h b b_l = some (List.toArray (bcs x1)) ∧ R (Value.bool (ByteArray.toList (ByteArray.mk (List.toArray x0)) == ByteArray.toList (ByteArray.mk (List.toArray x1)))) h
theorem C_bytes_Equal (a : Option Addr) (a_l : Nat) (a_c : Nat) (b : Option Addr) (b_l : Nat) (b_c : Nat) {h : Heap} {R : Value → Heap → Prop} (H : F_bytes_Equal a a_l a_c b b_l b_c h R) : CallsH Tryz.prog n_bytes_Equal [(.slice a a_l a_c), (.slice b b_l b_c)].toArray h R :=
  fn_sound (A := A_bytes_Equal) (Eq.mp (by kernel_rfl : F_bytes_Equal a a_l a_c b b_l b_c h R = fnVc Go.Proofs.Tryz.prog A_bytes_Equal 17 [(.slice a a_l a_c), (.slice b b_l b_c)] h R) H)

/- slices.Equal[[]rolodex/api.Hash,rolodex/api.Hash] -/
def A_slices_Equal_api_Hash_api_Hash : Ann := { qs := [4, 5, 6, 7, 8, 9, 10, 11, 13, 14, 16, 17, 18, 19, 20, 21, 22, 23, 24, 25, 27, 37, 38, 41, 42, 58, 59, 60, 61, 62, 81, 86, 93, 94, 98, 106, 108, 109, 110, 112], loops := [(4, [(13, (.int .i64))])], plans := [(6, (.take 0 (.take 1 (.take 2 (.take 3 (.take 4 (.take 5 (.take 6 (.take 7 (.take 8 .done))))))))))] }
def F_slices_Equal_api_Hash_api_Hash (s1 : Option Addr) (s1_l : Nat) (s1_c : Nat) (s2 : Option Addr) (s2_l : Nat) (s2_c : Nat) (h : Heap) (R : Value → Heap → Prop) : Prop :=
 br ((↑s1_l : Int) != (↑s2_l : Int)) (R (Value.bool false) h)
 (∃ (I0 : Int → Heap → Prop),
 ∃ (μ1 : Int → Heap → Nat),
 I0 (0 : Int) h ∧
 ∀ (n2 : Int) (h3 : Heap),
 I0 n2 h3 →
 br (decide (n2 < (↑s1_l : Int)))
 ((0 : Int) ≤ n2 ∧
 n2 < (↑s1_l : Int) ∧
 deref s1 fun (a4 : Addr) =>
 ∃ (cs5 : Array Value),
 row h3 (Addr.add a4 (Int.toNat n2 * (32 : Nat))) (32 : Nat) = some cs5 ∧
 (0 : Int) ≤ n2 ∧
 n2 < (↑s2_l : Int) ∧
 deref s2 fun (a6 : Addr) =>
 ∃ (cs7 : Array Value),
 row h3 (Addr.add a6 (Int.toNat n2 * (32 : Nat))) (32 : Nat) = some cs7 ∧
 eqAgg Tryz.prog (26 : Nat) cs5 cs7 fun (t8 : Bool) =>
 br (!t8) (R (Value.bool false) h3) (I0 (IntKind.wrap IntKind.i64 (n2 + (1 : Int))) h3 ∧ μ1 (IntKind.wrap IntKind.i64 (n2 + (1 : Int))) h3 < μ1 n2 h3))
 (R (Value.bool true) h3))
theorem C_slices_Equal_api_Hash_api_Hash (s1 : Option Addr) (s1_l : Nat) (s1_c : Nat) (s2 : Option Addr) (s2_l : Nat) (s2_c : Nat) {h : Heap} {R : Value → Heap → Prop} (H : F_slices_Equal_api_Hash_api_Hash s1 s1_l s1_c s2 s2_l s2_c h R) : CallsH Tryz.prog n_slices_Equal_api_Hash_api_Hash [(.slice s1 s1_l s1_c), (.slice s2 s2_l s2_c)].toArray h R :=
  fn_sound (A := A_slices_Equal_api_Hash_api_Hash) (Eq.mp (by kernel_rfl : F_slices_Equal_api_Hash_api_Hash s1 s1_l s1_c s2 s2_l s2_c h R = fnVc Go.Proofs.Tryz.prog A_slices_Equal_api_Hash_api_Hash 25 [(.slice s1 s1_l s1_c), (.slice s2 s2_l s2_c)] h R) H)

/- slices.Equal[[]rolodex/delta.Row,rolodex/delta.Row] -/
def A_slices_Equal_delta_Row_delta_Row : Ann := { qs := [4, 5, 6, 7, 8, 9, 10, 11, 13, 14, 16, 17, 18, 19, 20, 21, 22, 23, 24, 25, 27, 37, 38, 41, 42, 58, 59, 60, 61, 62, 81, 86, 93, 94, 98, 106, 108, 109, 110, 112], loops := [(4, [(13, (.int .i64))])], plans := [(6, (.take 0 (.take 1 (.take 2 (.take 3 (.take 4 (.take 5 (.take 6 (.take 7 (.take 8 .done))))))))))] }
def F_slices_Equal_delta_Row_delta_Row (s1 : Option Addr) (s1_l : Nat) (s1_c : Nat) (s2 : Option Addr) (s2_l : Nat) (s2_c : Nat) (h : Heap) (R : Value → Heap → Prop) : Prop :=
 br ((↑s1_l : Int) != (↑s2_l : Int)) (R (Value.bool false) h)
 (∃ (I0 : Int → Heap → Prop),
 ∃ (μ1 : Int → Heap → Nat),
 I0 (0 : Int) h ∧
 ∀ (n2 : Int) (h3 : Heap),
 I0 n2 h3 →
 br (decide (n2 < (↑s1_l : Int)))
 ((0 : Int) ≤ n2 ∧
 n2 < (↑s1_l : Int) ∧
 deref s1 fun (a4 : Addr) =>
 ∃ (cs5 : Array Value),
 row h3 (Addr.add a4 (Int.toNat n2 * (162 : Nat))) (162 : Nat) = some cs5 ∧
 (0 : Int) ≤ n2 ∧
 n2 < (↑s2_l : Int) ∧
 deref s2 fun (a6 : Addr) =>
 ∃ (cs7 : Array Value),
 row h3 (Addr.add a6 (Int.toNat n2 * (162 : Nat))) (162 : Nat) = some cs7 ∧
 eqAgg Tryz.prog (74 : Nat) cs5 cs7 fun (t8 : Bool) =>
 br (!t8) (R (Value.bool false) h3) (I0 (IntKind.wrap IntKind.i64 (n2 + (1 : Int))) h3 ∧ μ1 (IntKind.wrap IntKind.i64 (n2 + (1 : Int))) h3 < μ1 n2 h3))
 (R (Value.bool true) h3))
theorem C_slices_Equal_delta_Row_delta_Row (s1 : Option Addr) (s1_l : Nat) (s1_c : Nat) (s2 : Option Addr) (s2_l : Nat) (s2_c : Nat) {h : Heap} {R : Value → Heap → Prop} (H : F_slices_Equal_delta_Row_delta_Row s1 s1_l s1_c s2 s2_l s2_c h R) : CallsH Tryz.prog n_slices_Equal_delta_Row_delta_Row [(.slice s1 s1_l s1_c), (.slice s2 s2_l s2_c)].toArray h R :=
  fn_sound (A := A_slices_Equal_delta_Row_delta_Row) (Eq.mp (by kernel_rfl : F_slices_Equal_delta_Row_delta_Row s1 s1_l s1_c s2 s2_l s2_c h R = fnVc Go.Proofs.Tryz.prog A_slices_Equal_delta_Row_delta_Row 22 [(.slice s1 s1_l s1_c), (.slice s2 s2_l s2_c)] h R) H)

/- slices.Equal[[]rolodex/proof.Step,rolodex/proof.Step] -/
def A_slices_Equal_proof_Step_proof_Step : Ann := { qs := [4, 5, 6, 7, 8, 9, 10, 11, 13, 14, 16, 17, 18, 19, 20, 21, 22, 23, 24, 25, 27, 37, 38, 41, 42, 58, 59, 60, 61, 62, 81, 86, 93, 94, 98, 106, 108, 109, 110, 112], loops := [(4, [(13, (.int .i64))])], plans := [(6, (.take 0 (.take 1 (.take 2 (.take 3 (.take 4 (.take 5 (.take 6 (.take 7 (.take 8 .done))))))))))] }
def F_slices_Equal_proof_Step_proof_Step (s1 : Option Addr) (s1_l : Nat) (s1_c : Nat) (s2 : Option Addr) (s2_l : Nat) (s2_c : Nat) (h : Heap) (R : Value → Heap → Prop) : Prop :=
 br ((↑s1_l : Int) != (↑s2_l : Int)) (R (Value.bool false) h)
 (∃ (I0 : Int → Heap → Prop),
 ∃ (μ1 : Int → Heap → Nat),
 I0 (0 : Int) h ∧
 ∀ (n2 : Int) (h3 : Heap),
 I0 n2 h3 →
 br (decide (n2 < (↑s1_l : Int)))
 ((0 : Int) ≤ n2 ∧
 n2 < (↑s1_l : Int) ∧
 deref s1 fun (a4 : Addr) =>
 ∃ (cs5 : Array Value),
 row h3 (Addr.add a4 (Int.toNat n2 * (65 : Nat))) (65 : Nat) = some cs5 ∧
 (0 : Int) ≤ n2 ∧
 n2 < (↑s2_l : Int) ∧
 deref s2 fun (a6 : Addr) =>
 ∃ (cs7 : Array Value),
 row h3 (Addr.add a6 (Int.toNat n2 * (65 : Nat))) (65 : Nat) = some cs7 ∧
 eqAgg Tryz.prog (126 : Nat) cs5 cs7 fun (t8 : Bool) =>
 br (!t8) (R (Value.bool false) h3) (I0 (IntKind.wrap IntKind.i64 (n2 + (1 : Int))) h3 ∧ μ1 (IntKind.wrap IntKind.i64 (n2 + (1 : Int))) h3 < μ1 n2 h3))
 (R (Value.bool true) h3))
theorem C_slices_Equal_proof_Step_proof_Step (s1 : Option Addr) (s1_l : Nat) (s1_c : Nat) (s2 : Option Addr) (s2_l : Nat) (s2_c : Nat) {h : Heap} {R : Value → Heap → Prop} (H : F_slices_Equal_proof_Step_proof_Step s1 s1_l s1_c s2 s2_l s2_c h R) : CallsH Tryz.prog n_slices_Equal_proof_Step_proof_Step [(.slice s1 s1_l s1_c), (.slice s2 s2_l s2_c)].toArray h R :=
  fn_sound (A := A_slices_Equal_proof_Step_proof_Step) (Eq.mp (by kernel_rfl : F_slices_Equal_proof_Step_proof_Step s1 s1_l s1_c s2 s2_l s2_c h R = fnVc Go.Proofs.Tryz.prog A_slices_Equal_proof_Step_proof_Step 60 [(.slice s1 s1_l s1_c), (.slice s2 s2_l s2_c)] h R) H)

/- rolodex/message.sameTrail -/
def A_message_sameTrail : Ann := { qs := [4, 5, 6, 7, 8, 9, 10, 11, 13, 14, 16, 17, 18, 19, 20, 21, 22, 23, 24, 25, 27, 37, 38, 41, 42, 58, 59, 60, 61, 62, 81, 86, 93, 94, 98, 106, 108, 109, 110, 112] }
def F_message_sameTrail (a : Array Value) (b : Array Value) (h : Heap) (R : Value → Heap → Prop) : Prop :=
 newBlk h (33 : Nat) a fun (b0 : Nat) (h1 : Heap) =>
 newBlk h1 (33 : Nat) b fun (b2 : Nat) (h3 : Heap) =>
 ∃ (p4 : Option Addr),
 ∃ (l5 : Nat),
 ∃ (c6 : Nat),
 cell h3 (Addr.add (Addr.mk b0 (0 : Nat) none) (0 : Nat)) = some (Value.slice p4 l5 c6) ∧
 ∃ (p7 : Option Addr),
 ∃ (l8 : Nat),
 ∃ (c9 : Nat),
 cell h3 (Addr.add (Addr.mk b2 (0 : Nat) none) (0 : Nat)) = some (Value.slice p7 l8 c9) ∧
 CallsH Tryz.prog n_slices_Equal_api_Hash_api_Hash #[Value.slice p4 l5 c6, Value.slice p7 l8 c9] h3 fun (v10 : Value) (h11 : Heap) =>
 Ext h3 h11 ∧
 ∃ (t12 : Bool),
 v10 = Value.bool t12 ∧
 br t12
 (∃ (p13 : Option Addr),
 ∃ (l14 : Nat),
 ∃ (c15 : Nat),
 cell h11 (Addr.add (Addr.mk b0 (0 : Nat) none) (1 : Nat)) = some (Value.slice p13 l14 c15) ∧
 ∃ (p16 : Option Addr),
 ∃ (l17 : Nat),
 ∃ (c18 : Nat),
 cell h11 (Addr.add (Addr.mk b2 (0 : Nat) none) (1 : Nat)) = some (Value.slice p16 l17 c18) ∧
 CallsH Tryz.prog n_slices_Equal_api_Hash_api_Hash #[Value.slice p13 l14 c15, Value.slice p16 l17 c18] h11 fun (v19 : Value) (h20 : Heap) =>
 Ext h11 h20 ∧ ∃ (t21 : Bool), v19 = Value.bool t21 ∧ R (Value.bool t21) h20)
 (R (Value.bool false) h11)
theorem C_message_sameTrail (a : Array Value) (b : Array Value) {h : Heap} {R : Value → Heap → Prop} (H : F_message_sameTrail a b h R) : CallsH Tryz.prog n_message_sameTrail [(.agg a), (.agg b)].toArray h R :=
  fn_sound (A := A_message_sameTrail) (Eq.mp (by kernel_rfl : F_message_sameTrail a b h R = fnVc Go.Proofs.Tryz.prog A_message_sameTrail 18 [(.agg a), (.agg b)] h R) H)

/- rolodex/message.sameProof -/
def A_message_sameProof : Ann := { qs := [4, 5, 6, 7, 8, 9, 10, 11, 13, 14, 16, 17, 18, 19, 20, 21, 22, 23, 24, 25, 27, 37, 38, 41, 42, 58, 59, 60, 61, 62, 81, 86, 93, 94, 98, 106, 108, 109, 110, 112] }
def F_message_sameProof (a : Array Value) (b : Array Value) (h : Heap) (R : Value → Heap → Prop) : Prop :=
 newBlk h (38 : Nat) a fun (b0 : Nat) (h1 : Heap) =>
 newBlk h1 (38 : Nat) b fun (b2 : Nat) (h3 : Heap) =>
 ∃ (p4 : Option Addr),
 ∃ (l5 : Nat),
 ∃ (c6 : Nat),
 cell h3 (Addr.add (Addr.mk b0 (0 : Nat) none) (0 : Nat)) = some (Value.slice p4 l5 c6) ∧
 ∃ (p7 : Option Addr),
 ∃ (l8 : Nat),
 ∃ (c9 : Nat),
 cell h3 (Addr.add (Addr.mk b2 (0 : Nat) none) (0 : Nat)) = some (Value.slice p7 l8 c9) ∧
 CallsH Tryz.prog n_slices_Equal_proof_Step_proof_Step #[Value.slice p4 l5 c6, Value.slice p7 l8 c9] h3 fun (v10 : Value) (h11 : Heap) =>
 Ext h3 h11 ∧
 ∃ (t12 : Bool),
 v10 = Value.bool t12 ∧
 br t12
 (∃ (n13 : Int),
 cell h11 (Addr.add (Addr.mk b0 (0 : Nat) none) (1 : Nat)) = some (Value.int IntKind.i64 n13) ∧
 ∃ (n14 : Int),
 cell h11 (Addr.add (Addr.mk b2 (0 : Nat) none) (1 : Nat)) = some (Value.int IntKind.i64 n14) ∧
 br (n13 == n14)
 (∃ (cs15 : Array Value),
 row h11 (Addr.add (Addr.mk b0 (0 : Nat) none) (2 : Nat)) (32 : Nat) = some cs15 ∧
 ∃ (cs16 : Array Value),
 row h11 (Addr.add (Addr.mk b2 (0 : Nat) none) (2 : Nat)) (32 : Nat) = some cs16 ∧
 eqAgg Tryz.prog (26 : Nat) cs15 cs16 fun (t17 : Bool) =>
 br t17
 (∃ (cs18 : Array Value),
 row h11 (Addr.add (Addr.mk b0 (0 : Nat) none) (34 : Nat)) (32 : Nat) = some cs18 ∧
 ∃ (cs19 : Array Value),
 row h11 (Addr.add (Addr.mk b2 (0 : Nat) none) (34 : Nat)) (32 : Nat) = some cs19 ∧
 eqAgg Tryz.prog (26 : Nat) cs18 cs19 fun (t20 : Bool) =>
 br t20
 (∃ (cs21 : Array Value),
 row h11 (Addr.add (Addr.mk b0 (0 : Nat) none) (66 : Nat)) (33 : Nat) = some cs21 ∧
 ∃ (cs22 : Array Value),
 row h11 (Addr.add (Addr.mk b2 (0 : Nat) none) (66 : Nat)) (33 : Nat) = some cs22 ∧
 eqAgg Tryz.prog (36 : Nat) cs21 cs22 fun (t23 : Bool) =>
 br t23
 (∃ (cs24 : Array Value),
 row h11 (Addr.add (Addr.mk b0 (0 : Nat) none) (99 : Nat)) (32 : Nat) = some cs24 ∧
 ∃ (cs25 : Array Value),
 row h11 (Addr.add (Addr.mk b2 (0 : Nat) none) (99 : Nat)) (32 : Nat) = some cs25 ∧
 eqAgg Tryz.prog (26 : Nat) cs24 cs25 fun (t26 : Bool) =>
 br t26
 (∃ (cs27 : Array Value),
 row h11 (Addr.add (Addr.mk b0 (0 : Nat) none) (131 : Nat)) (32 : Nat) = some cs27 ∧
 ∃ (cs28 : Array Value),
 row h11 (Addr.add (Addr.mk b2 (0 : Nat) none) (131 : Nat)) (32 : Nat) = some cs28 ∧
 eqAgg Tryz.prog (26 : Nat) cs27 cs28 fun (t29 : Bool) => R (Value.bool t29) h11)
 (R (Value.bool false) h11))
 (R (Value.bool false) h11))
 (R (Value.bool false) h11))
 (R (Value.bool false) h11))
 (R (Value.bool false) h11))
 (R (Value.bool false) h11)
theorem C_message_sameProof (a : Array Value) (b : Array Value) {h : Heap} {R : Value → Heap → Prop} (H : F_message_sameProof a b h R) : CallsH Tryz.prog n_message_sameProof [(.agg a), (.agg b)].toArray h R :=
  fn_sound (A := A_message_sameProof) (Eq.mp (by kernel_rfl : F_message_sameProof a b h R = fnVc Go.Proofs.Tryz.prog A_message_sameProof 19 [(.agg a), (.agg b)] h R) H)

/- rolodex/message.sameVersion -/
def A_message_sameVersion : Ann := { qs := [4, 5, 6, 7, 8, 9, 10, 11, 13, 14, 16, 17, 18, 19, 20, 21, 22, 23, 24, 25, 27, 37, 38, 41, 42, 58, 59, 60, 61, 62, 81, 86, 93, 94, 98, 106, 108, 109, 110, 112] }
def F_message_sameVersion (a : Array Value) (b : Array Value) (h : Heap) (R : Value → Heap → Prop) : Prop :=
 newBlk h (70 : Nat) a fun (b0 : Nat) (h1 : Heap) =>
 newBlk h1 (70 : Nat) b fun (b2 : Nat) (h3 : Heap) =>
 ∃ (n4 : Int),
 cell h3 (Addr.add (Addr.mk b0 (0 : Nat) none) (0 : Nat)) = some (Value.int IntKind.i64 n4) ∧
 ∃ (n5 : Int),
 cell h3 (Addr.add (Addr.mk b2 (0 : Nat) none) (0 : Nat)) = some (Value.int IntKind.i64 n5) ∧
 br (n4 == n5)
 (∃ (n6 : Int),
 cell h3 (Addr.add (Addr.mk b0 (0 : Nat) none) (1 : Nat)) = some (Value.int IntKind.i64 n6) ∧
 ∃ (n7 : Int),
 cell h3 (Addr.add (Addr.mk b2 (0 : Nat) none) (1 : Nat)) = some (Value.int IntKind.i64 n7) ∧
 br (n6 == n7)
 (∃ (cs8 : Array Value),
 row h3 (Addr.add (Addr.mk b0 (0 : Nat) none) (2 : Nat)) (32 : Nat) = some cs8 ∧
 ∃ (cs9 : Array Value),
 row h3 (Addr.add (Addr.mk b2 (0 : Nat) none) (2 : Nat)) (32 : Nat) = some cs9 ∧
 eqAgg Tryz.prog (26 : Nat) cs8 cs9 fun (t10 : Bool) =>
 br t10
 (∃ (cs11 : Array Value),
 row h3 (Addr.add (Addr.mk b0 (0 : Nat) none) (34 : Nat)) (32 : Nat) = some cs11 ∧
 ∃ (cs12 : Array Value),
 row h3 (Addr.add (Addr.mk b2 (0 : Nat) none) (34 : Nat)) (32 : Nat) = some cs12 ∧
 eqAgg Tryz.prog (26 : Nat) cs11 cs12 fun (t13 : Bool) =>
 br t13
 (∃ (p14 : Option Addr),
 ∃ (l15 : Nat),
 ∃ (c16 : Nat),
 cell h3 (Addr.add (Addr.mk b0 (0 : Nat) none) (66 : Nat)) = some (Value.slice p14 l15 c16) ∧
 ∃ (p17 : Option Addr),
 ∃ (l18 : Nat),
 ∃ (c19 : Nat),
 cell h3 (Addr.add (Addr.mk b2 (0 : Nat) none) (66 : Nat)) = some (Value.slice p17 l18 c19) ∧
 CallsH Tryz.prog n_bytes_Equal #[Value.slice p14 l15 c16, Value.slice p17 l18 c19] h3 fun (v20 : Value) (h21 : Heap) =>
 Ext h3 h21 ∧ ∃ (t22 : Bool), v20 = Value.bool t22 ∧ R (Value.bool t22) h21)
 (R (Value.bool false) h3))
 (R (Value.bool false) h3))
 (R (Value.bool false) h3))
 (R (Value.bool false) h3)
theorem C_message_sameVersion (a : Array Value) (b : Array Value) {h : Heap} {R : Value → Heap → Prop} (H : F_message_sameVersion a b h R) : CallsH Tryz.prog n_message_sameVersion [(.agg a), (.agg b)].toArray h R :=
  fn_sound (A := A_message_sameVersion) (Eq.mp (by kernel_rfl : F_message_sameVersion a b h R = fnVc Go.Proofs.Tryz.prog A_message_sameVersion 21 [(.agg a), (.agg b)] h R) H)

/- rolodex/message.sameNews -/
def A_message_sameNews : Ann := { qs := [4, 5, 6, 7, 8, 9, 10, 11, 13, 14, 16, 17, 18, 19, 20, 21, 22, 23, 24, 25, 27, 37, 38, 41, 42, 58, 59, 60, 61, 62, 81, 86, 93, 94, 98, 106, 108, 109, 110, 112] }
def F_message_sameNews (a : Array Value) (b : Array Value) (h : Heap) (R : Value → Heap → Prop) : Prop :=
 newBlk h (77 : Nat) a fun (b0 : Nat) (h1 : Heap) =>
 newBlk h1 (77 : Nat) b fun (b2 : Nat) (h3 : Heap) =>
 ∃ (p4 : Option Addr),
 ∃ (l5 : Nat),
 ∃ (c6 : Nat),
 cell h3 (Addr.add (Addr.mk b0 (0 : Nat) none) (0 : Nat)) = some (Value.slice p4 l5 c6) ∧
 ∃ (p7 : Option Addr),
 ∃ (l8 : Nat),
 ∃ (c9 : Nat),
 cell h3 (Addr.add (Addr.mk b2 (0 : Nat) none) (0 : Nat)) = some (Value.slice p7 l8 c9) ∧
 CallsH Tryz.prog n_bytes_Equal #[Value.slice p4 l5 c6, Value.slice p7 l8 c9] h3 fun (v10 : Value) (h11 : Heap) =>
 Ext h3 h11 ∧
 ∃ (t12 : Bool),
 v10 = Value.bool t12 ∧
 br t12
 (∃ (cs13 : Array Value),
 row h11 (Addr.add (Addr.mk b0 (0 : Nat) none) (1 : Nat)) (67 : Nat) = some cs13 ∧
 ∃ (cs14 : Array Value),
 row h11 (Addr.add (Addr.mk b2 (0 : Nat) none) (1 : Nat)) (67 : Nat) = some cs14 ∧
 CallsH Tryz.prog n_message_sameVersion #[Value.agg cs13, Value.agg cs14] h11 fun (v15 : Value) (h16 : Heap) =>
 Ext h11 h16 ∧ ∃ (t17 : Bool), v15 = Value.bool t17 ∧ R (Value.bool t17) h16)
 (R (Value.bool false) h11)
theorem C_message_sameNews (a : Array Value) (b : Array Value) {h : Heap} {R : Value → Heap → Prop} (H : F_message_sameNews a b h R) : CallsH Tryz.prog n_message_sameNews [(.agg a), (.agg b)].toArray h R :=
  fn_sound (A := A_message_sameNews) (Eq.mp (by kernel_rfl : F_message_sameNews a b h R = fnVc Go.Proofs.Tryz.prog A_message_sameNews 24 [(.agg a), (.agg b)] h R) H)

/- slices.EqualFunc[[]rolodex/chain.Version,[]rolodex/chain.Version,rolodex/chain.Version,rolodex/chain.Version] -/
def A_slices_EqualFunc_chain_Version_chain_Version_chain_Version_chain_Version : Ann := { qs := [4, 5, 6, 7, 8, 9, 10, 11, 13, 14, 16, 17, 18, 19, 20, 21, 22, 23, 24, 25, 27, 37, 38, 41, 42, 58, 59, 60, 61, 62, 81, 86, 93, 94, 98, 106, 108, 109, 110, 112], loops := [(4, [(17, (.int .i64))])] }
def F_slices_EqualFunc_chain_Version_chain_Version_chain_Version_chain_Version (s1 : Option Addr) (s1_l : Nat) (s1_c : Nat) (s2 : Option Addr) (s2_l : Nat) (s2_c : Nat) (h : Heap) (R : Value → Heap → Prop) : Prop :=
 br ((↑s1_l : Int) != (↑s2_l : Int)) (R (Value.bool false) h)
 (∃ (I0 : Int → Heap → Prop),
 ∃ (μ1 : Int → Heap → Nat),
 I0 (0 : Int) h ∧
 ∀ (n2 : Int) (h3 : Heap),
 I0 n2 h3 →
 br (decide (n2 < (↑s1_l : Int)))
 ((0 : Int) ≤ n2 ∧
 n2 < (↑s1_l : Int) ∧
 deref s1 fun (a4 : Addr) =>
 ∃ (cs5 : Array Value),
 row h3 (Addr.add a4 (Int.toNat n2 * (67 : Nat))) (67 : Nat) = some cs5 ∧
 newBlk h3 (70 : Nat)
 (List.toArray
 (Value.int IntKind.i64 (0 : Int) ::
 Value.int IntKind.i64 (0 : Int) :: (List.replicate (64 : Nat) (Value.int IntKind.u8 (0 : Int)) ++ [Value.slice none (0 : Nat) (0 : Nat)])))
 fun (b6 : Nat) (h7 : Heap) =>
 storeP (some (67 : Nat)) h7 (Addr.mk b6 (0 : Nat) none) (Value.agg cs5) fun (h8 : Heap) =>
 (0 : Int) ≤ n2 ∧
 n2 < (↑s2_l : Int) ∧
 deref s2 fun (a9 : Addr) =>
 ∃ (cs10 : Array Value),
 row h8 (Addr.add a9 (Int.toNat n2 * (67 : Nat))) (67 : Nat) = some cs10 ∧
 newBlk h8 (70 : Nat)
 (List.toArray
 (Value.int IntKind.i64 (0 : Int) ::
 Value.int IntKind.i64 (0 : Int) :: (List.replicate (64 : Nat) (Value.int IntKind.u8 (0 : Int)) ++ [Value.slice none (0 : Nat) (0 : Nat)])))
 fun (b11 : Nat) (h12 : Heap) =>
 storeP (some (67 : Nat)) h12 (Addr.mk b11 (0 : Nat) none) (Value.agg cs10) fun (h13 : Heap) =>
 ∃ (cs14 : Array Value),
 row h13 (Addr.mk b6 (0 : Nat) none) (67 : Nat) = some cs14 ∧
 ∃ (cs15 : Array Value),
 row h13 (Addr.mk b11 (0 : Nat) none) (67 : Nat) = some cs15 ∧
 CallsH Tryz.prog n_message_sameVersion #[Value.agg cs14, Value.agg cs15] h13 fun (v16 : Value) (h17 : Heap) =>
 Ext h13 h17 ∧
 ∃ (t18 : Bool),
 v16 = Value.bool t18 ∧
 br (!t18) (R (Value.bool false) h17)
 (I0 (IntKind.wrap IntKind.i64 (n2 + (1 : Int))) h17 ∧ μ1 (IntKind.wrap IntKind.i64 (n2 + (1 : Int))) h17 < μ1 n2 h3))
 (R (Value.bool true) h3))
theorem C_slices_EqualFunc_chain_Version_chain_Version_chain_Version_chain_Version (s1 : Option Addr) (s1_l : Nat) (s1_c : Nat) (s2 : Option Addr) (s2_l : Nat) (s2_c : Nat) {h : Heap} {R : Value → Heap → Prop} (H : F_slices_EqualFunc_chain_Version_chain_Version_chain_Version_chain_Version s1 s1_l s1_c s2 s2_l s2_c h R) : CallsH Tryz.prog n_slices_EqualFunc_chain_Version_chain_Version_chain_Version_chain_Version [(.slice s1 s1_l s1_c), (.slice s2 s2_l s2_c), (.func (.func 21) #[] #[])].toArray h R :=
  fn_sound (A := A_slices_EqualFunc_chain_Version_chain_Version_chain_Version_chain_Version) (Eq.mp (by kernel_rfl : F_slices_EqualFunc_chain_Version_chain_Version_chain_Version_chain_Version s1 s1_l s1_c s2 s2_l s2_c h R = fnVc Go.Proofs.Tryz.prog A_slices_EqualFunc_chain_Version_chain_Version_chain_Version_chain_Version 20 [(.slice s1 s1_l s1_c), (.slice s2 s2_l s2_c), (.func (.func 21) #[] #[])] h R) H)

/- slices.EqualFunc[[]rolodex/message.News,[]rolodex/message.News,rolodex/message.News,rolodex/message.News] -/
def A_slices_EqualFunc_message_News_message_News_message_News_message_News : Ann := { qs := [4, 5, 6, 7, 8, 9, 10, 11, 13, 14, 16, 17, 18, 19, 20, 21, 22, 23, 24, 25, 27, 37, 38, 41, 42, 58, 59, 60, 61, 62, 81, 86, 93, 94, 98, 106, 108, 109, 110, 112], loops := [(4, [(17, (.int .i64))])] }
def F_slices_EqualFunc_message_News_message_News_message_News_message_News (s1 : Option Addr) (s1_l : Nat) (s1_c : Nat) (s2 : Option Addr) (s2_l : Nat) (s2_c : Nat) (h : Heap) (R : Value → Heap → Prop) : Prop :=
 br ((↑s1_l : Int) != (↑s2_l : Int)) (R (Value.bool false) h)
 (∃ (I0 : Int → Heap → Prop),
 ∃ (μ1 : Int → Heap → Nat),
 I0 (0 : Int) h ∧
 ∀ (n2 : Int) (h3 : Heap),
 I0 n2 h3 →
 br (decide (n2 < (↑s1_l : Int)))
 ((0 : Int) ≤ n2 ∧
 n2 < (↑s1_l : Int) ∧
 deref s1 fun (a4 : Addr) =>
 ∃ (cs5 : Array Value),
 row h3 (Addr.add a4 (Int.toNat n2 * (68 : Nat))) (68 : Nat) = some cs5 ∧
 newBlk h3 (77 : Nat)
 (List.toArray
 (Value.slice none (0 : Nat) (0 : Nat) ::
 Value.int IntKind.i64 (0 : Int) ::
 Value.int IntKind.i64 (0 : Int) :: (List.replicate (64 : Nat) (Value.int IntKind.u8 (0 : Int)) ++ [Value.slice none (0 : Nat) (0 : Nat)])))
 fun (b6 : Nat) (h7 : Heap) =>
 storeP (some (68 : Nat)) h7 (Addr.mk b6 (0 : Nat) none) (Value.agg cs5) fun (h8 : Heap) =>
 (0 : Int) ≤ n2 ∧
 n2 < (↑s2_l : Int) ∧
 deref s2 fun (a9 : Addr) =>
 ∃ (cs10 : Array Value),
 row h8 (Addr.add a9 (Int.toNat n2 * (68 : Nat))) (68 : Nat) = some cs10 ∧
 newBlk h8 (77 : Nat)
 (List.toArray
 (Value.slice none (0 : Nat) (0 : Nat) ::
 Value.int IntKind.i64 (0 : Int) ::
 Value.int IntKind.i64 (0 : Int) :: (List.replicate (64 : Nat) (Value.int IntKind.u8 (0 : Int)) ++ [Value.slice none (0 : Nat) (0 : Nat)])))
 fun (b11 : Nat) (h12 : Heap) =>
 storeP (some (68 : Nat)) h12 (Addr.mk b11 (0 : Nat) none) (Value.agg cs10) fun (h13 : Heap) =>
 ∃ (cs14 : Array Value),
 row h13 (Addr.mk b6 (0 : Nat) none) (68 : Nat) = some cs14 ∧
 ∃ (cs15 : Array Value),
 row h13 (Addr.mk b11 (0 : Nat) none) (68 : Nat) = some cs15 ∧
 CallsH Tryz.prog n_message_sameNews #[Value.agg cs14, Value.agg cs15] h13 fun (v16 : Value) (h17 : Heap) =>
 Ext h13 h17 ∧
 ∃ (t18 : Bool),
 v16 = Value.bool t18 ∧
 br (!t18) (R (Value.bool false) h17)
 (I0 (IntKind.wrap IntKind.i64 (n2 + (1 : Int))) h17 ∧ μ1 (IntKind.wrap IntKind.i64 (n2 + (1 : Int))) h17 < μ1 n2 h3))
 (R (Value.bool true) h3))
theorem C_slices_EqualFunc_message_News_message_News_message_News_message_News (s1 : Option Addr) (s1_l : Nat) (s1_c : Nat) (s2 : Option Addr) (s2_l : Nat) (s2_c : Nat) {h : Heap} {R : Value → Heap → Prop} (H : F_slices_EqualFunc_message_News_message_News_message_News_message_News s1 s1_l s1_c s2 s2_l s2_c h R) : CallsH Tryz.prog n_slices_EqualFunc_message_News_message_News_message_News_message_News [(.slice s1 s1_l s1_c), (.slice s2 s2_l s2_c), (.func (.func 24) #[] #[])].toArray h R :=
  fn_sound (A := A_slices_EqualFunc_message_News_message_News_message_News_message_News) (Eq.mp (by kernel_rfl : F_slices_EqualFunc_message_News_message_News_message_News_message_News s1 s1_l s1_c s2 s2_l s2_c h R = fnVc Go.Proofs.Tryz.prog A_slices_EqualFunc_message_News_message_News_message_News_message_News 23 [(.slice s1 s1_l s1_c), (.slice s2 s2_l s2_c), (.func (.func 24) #[] #[])] h R) H)

/- rolodex/message.Same -/
def A_message_Same : Ann := { qs := [4, 5, 6, 7, 8, 9, 10, 11, 13, 14, 16, 17, 18, 19, 20, 21, 22, 23, 24, 25, 27, 37, 38, 41, 42, 58, 59, 60, 61, 62, 81, 86, 93, 94, 98, 106, 108, 109, 110, 112] }
def F_message_Same (a : Array Value) (b : Array Value) (h : Heap) (R : Value → Heap → Prop) : Prop :=
 newBlk h (43 : Nat) a fun (b0 : Nat) (h1 : Heap) =>
 newBlk h1 (43 : Nat) b fun (b2 : Nat) (h3 : Heap) =>
 ∃ (n4 : Int),
 cell h3 (Addr.add (Addr.mk b0 (0 : Nat) none) (0 : Nat)) = some (Value.int IntKind.i64 n4) ∧
 ∃ (n5 : Int),
 cell h3 (Addr.add (Addr.mk b2 (0 : Nat) none) (0 : Nat)) = some (Value.int IntKind.i64 n5) ∧
 br (n4 == n5)
 (∃ (n6 : Int),
 cell h3 (Addr.add (Addr.mk b0 (0 : Nat) none) (1 : Nat)) = some (Value.int IntKind.i64 n6) ∧
 ∃ (n7 : Int),
 cell h3 (Addr.add (Addr.mk b2 (0 : Nat) none) (1 : Nat)) = some (Value.int IntKind.i64 n7) ∧
 br (n6 == n7)
 (∃ (n8 : Int),
 cell h3 (Addr.add (Addr.mk b0 (0 : Nat) none) (2 : Nat)) = some (Value.int IntKind.i64 n8) ∧
 ∃ (n9 : Int),
 cell h3 (Addr.add (Addr.mk b2 (0 : Nat) none) (2 : Nat)) = some (Value.int IntKind.i64 n9) ∧
 br (n8 == n9)
 (∃ (n10 : Int),
 cell h3 (Addr.add (Addr.mk b0 (0 : Nat) none) (3 : Nat)) = some (Value.int IntKind.i64 n10) ∧
 ∃ (n11 : Int),
 cell h3 (Addr.add (Addr.mk b2 (0 : Nat) none) (3 : Nat)) = some (Value.int IntKind.i64 n11) ∧
 br (n10 == n11)
 (∃ (n12 : Int),
 cell h3 (Addr.add (Addr.mk b0 (0 : Nat) none) (4 : Nat)) = some (Value.int IntKind.i64 n12) ∧
 ∃ (n13 : Int),
 cell h3 (Addr.add (Addr.mk b2 (0 : Nat) none) (4 : Nat)) = some (Value.int IntKind.i64 n13) ∧
 br (n12 == n13)
 (∃ (n14 : Int),
 cell h3 (Addr.add (Addr.mk b0 (0 : Nat) none) (5 : Nat)) = some (Value.int IntKind.i64 n14) ∧
 ∃ (n15 : Int),
 cell h3 (Addr.add (Addr.mk b2 (0 : Nat) none) (5 : Nat)) = some (Value.int IntKind.i64 n15) ∧
 br (n14 == n15)
 (∃ (n16 : Int),
 cell h3 (Addr.add (Addr.mk b0 (0 : Nat) none) (6 : Nat)) = some (Value.int IntKind.i64 n16) ∧
 ∃ (n17 : Int),
 cell h3 (Addr.add (Addr.mk b2 (0 : Nat) none) (6 : Nat)) = some (Value.int IntKind.i64 n17) ∧
 br (n16 == n17)
 (∃ (cs18 : Array Value),
 row h3 (Addr.add (Addr.mk b0 (0 : Nat) none) (80 : Nat)) (32 : Nat) = some cs18 ∧
 ∃ (cs19 : Array Value),
 row h3 (Addr.add (Addr.mk b2 (0 : Nat) none) (80 : Nat)) (32 : Nat) = some cs19 ∧
 eqAgg Tryz.prog (26 : Nat) cs18 cs19 fun (t20 : Bool) =>
 br t20
 (∃ (p21 : Option Addr),
 ∃ (l22 : Nat),
 ∃ (c23 : Nat),
 cell h3 (Addr.add (Addr.mk b0 (0 : Nat) none) (7 : Nat)) = some (Value.slice p21 l22 c23) ∧
 ∃ (p24 : Option Addr),
 ∃ (l25 : Nat),
 ∃ (c26 : Nat),
 cell h3 (Addr.add (Addr.mk b2 (0 : Nat) none) (7 : Nat)) = some (Value.slice p24 l25 c26) ∧
 CallsH Tryz.prog n_bytes_Equal #[Value.slice p21 l22 c23, Value.slice p24 l25 c26] h3
 fun (v27 : Value) (h28 : Heap) =>
 Ext h3 h28 ∧
 ∃ (t29 : Bool),
 v27 = Value.bool t29 ∧
 br t29
 (∃ (p30 : Option Addr),
 ∃ (l31 : Nat),
 ∃ (c32 : Nat),
 cell h28 (Addr.add (Addr.mk b0 (0 : Nat) none) (8 : Nat)) =
 some (Value.slice p30 l31 c32) ∧
 ∃ (p33 : Option Addr),
 ∃ (l34 : Nat),
 ∃ (c35 : Nat),
 cell h28 (Addr.add (Addr.mk b2 (0 : Nat) none) (8 : Nat)) =
 some (Value.slice p33 l34 c35) ∧
 CallsH Tryz.prog n_bytes_Equal
 #[Value.slice p30 l31 c32, Value.slice p33 l34 c35] h28
 fun (v36 : Value) (h37 : Heap) =>
 Ext h28 h37 ∧
 ∃ (t38 : Bool),
 v36 = Value.bool t38 ∧
 br t38
 (∃ (cs39 : Array Value),
 row h37
 (Addr.add
 (Addr.add (Addr.mk b0 (0 : Nat) none) (9 : Nat))
 (0 : Nat))
 (66 : Nat) =
 some cs39 ∧
 ∃ (cs40 : Array Value),
 row h37
 (Addr.add
 (Addr.add (Addr.mk b2 (0 : Nat) none) (9 : Nat))
 (0 : Nat))
 (66 : Nat) =
 some cs40 ∧
 eqAgg Tryz.prog (28 : Nat) cs39 cs40
 fun (t41 : Bool) =>
 br t41
 (∃ (p42 : Option Addr),
 ∃ (l43 : Nat),
 ∃ (c44 : Nat),
 cell h37
 (Addr.add
 (Addr.add
 (Addr.mk b0 (0 : Nat) none)
 (9 : Nat))
 (66 : Nat)) =
 some (Value.slice p42 l43 c44) ∧
 ∃ (p45 : Option Addr),
 ∃ (l46 : Nat),
 ∃ (c47 : Nat),
 cell h37
 (Addr.add
 (Addr.add
 (Addr.mk b2 (0 : Nat)
 none)
 (9 : Nat))
 (66 : Nat)) =
 some (Value.slice p45 l46 c47) ∧
 CallsH Tryz.prog n_bytes_Equal
 #[Value.slice p42 l43 c44,
 Value.slice p45 l46 c47]
 h37
 fun (v48 : Value)
 (h49 : Heap) =>
 Ext h37 h49 ∧
 ∃ (t50 : Bool),
 v48 = Value.bool t50 ∧
 br t50
 (∃ (cs51 : Array Value),
 row h49
 (Addr.add
 (Addr.mk b0
 (0 : Nat)
 none)
 (76 : Nat))
 (2 : Nat) =
 some cs51 ∧
 ∃ (cs52 :
 Array Value),
 row h49
 (Addr.add
 (Addr.mk
 b2
 (0 :
 Nat)
 none)
 (76 :
 Nat))
 (2 : Nat) =
 some cs52 ∧
 CallsH Tryz.prog
 (18 : Nat)
 #[Value.agg
 cs51,
 Value.agg
 cs52]
 h49
 fun
 (v53 :
 Value)
 (h54 :
 Heap) =>
 Ext h49 h54 ∧
 ∃ (t55 :
 Bool),
 v53 =
 Value.bool
 t55 ∧
 br t55
 (∃
 (cs56
 :
 Array
 Value),
 row
 h54
 (Addr.add
 (Addr.mk
 b0
 (0 :
 Nat)
 none)
 (78 :
 Nat))
 (2 :
 Nat) =
 some
 cs56 ∧
 ∃
 (cs57
 :
 Array
 Value),
 row
 h54
 (Addr.add
 (Addr.mk
 b2
 (0 :
 Nat)
 none)
 (78 :
 Nat))
 (2 :
 Nat) =
 some
 cs57 ∧
 CallsH
 Tryz.prog
 (18 :
 Nat)
 #[Value.agg
 cs56,
 Value.agg
 cs57]
 h54
 fun
 (v58 :
 Value)
 (h59 :
 Heap) =>
 Ext
 h54
 h59 ∧
 ∃
 (t60
 :
 Bool),
 v58 =
 Value.bool
 t60 ∧
 br
 t60
 (∃
 (cs61
 :
 Array
 Value),
 row
 h59
 (Addr.add
 (Addr.mk
 b0
 (0 :
 Nat)
 none)
 (112 :
 Nat))
 (163 :
 Nat) =
 some
 cs61 ∧
 ∃
 (cs62
 :
 Array
 Value),
 row
 h59
 (Addr.add
 (Addr.mk
 b2
 (0 :
 Nat)
 none)
 (112 :
 Nat))
 (163 :
 Nat) =
 some
 cs62 ∧
 CallsH
 Tryz.prog
 (19 :
 Nat)
 #[Value.agg
 cs61,
 Value.agg
 cs62]
 h59
 fun
 (v63 :
 Value)
 (h64 :
 Heap) =>
 Ext
 h59
 h64 ∧
 ∃
 (t65
 :
 Bool),
 v63 =
 Value.bool
 t65 ∧
 br
 t65
 (∃
 (p66
 :
 Option
 Addr),
 ∃
 (l67
 :
 Nat),
 ∃
 (c68
 :
 Nat),
 cell
 h64
 (Addr.add
 (Addr.mk
 b0
 (0 :
 Nat)
 none)
 (275 :
 Nat)) =
 some
 (Value.slice
 p66
 l67
 c68) ∧
 ∃
 (p69
 :
 Option
 Addr),
 ∃
 (l70
 :
 Nat),
 ∃
 (c71
 :
 Nat),
 cell
 h64
 (Addr.add
 (Addr.mk
 b2
 (0 :
 Nat)
 none)
 (275 :
 Nat)) =
 some
 (Value.slice
 p69
 l70
 c71) ∧
 CallsH
 Tryz.prog
 (20 :
 Nat)
 #[Value.slice
 p66
 l67
 c68,
 Value.slice
 p69
 l70
 c71,
 Value.func
 (Fn.func
 (21 :
 Nat))
 #[]
 #[]]
 h64
 fun
 (v72 :
 Value)
 (h73 :
 Heap) =>
 Ext
 h64
 h73 ∧
 ∃
 (t74
 :
 Bool),
 v72 =
 Value.bool
 t74 ∧
 br
 t74
 (∃
 (p75
 :
 Option
 Addr),
 ∃
 (l76
 :
 Nat),
 ∃
 (c77
 :
 Nat),
 cell
 h73
 (Addr.add
 (Addr.mk
 b0
 (0 :
 Nat)
 none)
 (276 :
 Nat)) =
 some
 (Value.slice
 p75
 l76
 c77) ∧
 ∃
 (p78
 :
 Option
 Addr),
 ∃
 (l79
 :
 Nat),
 ∃
 (c80
 :
 Nat),
 cell
 h73
 (Addr.add
 (Addr.mk
 b2
 (0 :
 Nat)
 none)
 (276 :
 Nat)) =
 some
 (Value.slice
 p78
 l79
 c80) ∧
 CallsH
 Tryz.prog
 (22 :
 Nat)
 #[Value.slice
 p75
 l76
 c77,
 Value.slice
 p78
 l79
 c80]
 h73
 fun
 (v81 :
 Value)
 (h82 :
 Heap) =>
 Ext
 h73
 h82 ∧
 ∃
 (t83
 :
 Bool),
 v81 =
 Value.bool
 t83 ∧
 br
 t83
 (∃
 (p84
 :
 Option
 Addr),
 ∃
 (l85
 :
 Nat),
 ∃
 (c86
 :
 Nat),
 cell
 h82
 (Addr.add
 (Addr.mk
 b0
 (0 :
 Nat)
 none)
 (277 :
 Nat)) =
 some
 (Value.slice
 p84
 l85
 c86) ∧
 ∃
 (p87
 :
 Option
 Addr),
 ∃
 (l88
 :
 Nat),
 ∃
 (c89
 :
 Nat),
 cell
 h82
 (Addr.add
 (Addr.mk
 b2
 (0 :
 Nat)
 none)
 (277 :
 Nat)) =
 some
 (Value.slice
 p87
 l88
 c89) ∧
 CallsH
 Tryz.prog
 (23 :
 Nat)
 #[Value.slice
 p84
 l85
 c86,
 Value.slice
 p87
 l88
 c89,
 Value.func
 (Fn.func
 (24 :
 Nat))
 #[]
 #[]]
 h82
 fun
 (v90 :
 Value)
 (h91 :
 Heap) =>
 Ext
 h82
 h91 ∧
 ∃
 (t92
 :
 Bool),
 v90 =
 Value.bool
 t92 ∧
 br
 t92
 (∃
 (p93
 :
 Option
 Addr),
 ∃
 (l94
 :
 Nat),
 ∃
 (c95
 :
 Nat),
 cell
 h91
 (Addr.add
 (Addr.mk
 b0
 (0 :
 Nat)
 none)
 (278 :
 Nat)) =
 some
 (Value.slice
 p93
 l94
 c95) ∧
 ∃
 (p96
 :
 Option
 Addr),
 ∃
 (l97
 :
 Nat),
 ∃
 (c98
 :
 Nat),
 cell
 h91
 (Addr.add
 (Addr.mk
 b2
 (0 :
 Nat)
 none)
 (278 :
 Nat)) =
 some
 (Value.slice
 p96
 l97
 c98) ∧
 CallsH
 Tryz.prog
 (25 :
 Nat)
 #[Value.slice
 p93
 l94
 c95,
 Value.slice
 p96
 l97
 c98]
 h91
 fun
 (v99 :
 Value)
 (h100 :
 Heap) =>
 Ext
 h91
 h100 ∧
 ∃
 (t101
 :
 Bool),
 v99 =
 Value.bool
 t101 ∧
 R
 (Value.bool
 t101)
 h100)
 (R
 (Value.bool
 false)
 h91))
 (R
 (Value.bool
 false)
 h82))
 (R
 (Value.bool
 false)
 h73))
 (R
 (Value.bool
 false)
 h64))
 (R
 (Value.bool
 false)
 h59))
 (R
 (Value.bool
 false)
 h54))
 (R (Value.bool false)
 h49))
 (R (Value.bool false) h37))
 (R (Value.bool false) h37))
 (R (Value.bool false) h28))
 (R (Value.bool false) h3))
 (R (Value.bool false) h3))
 (R (Value.bool false) h3))
 (R (Value.bool false) h3))
 (R (Value.bool false) h3))
 (R (Value.bool false) h3))
 (R (Value.bool false) h3))
 (R (Value.bool false) h3)
theorem C_message_Same (a : Array Value) (b : Array Value) {h : Heap} {R : Value → Heap → Prop} (H : F_message_Same a b h R) : CallsH Tryz.prog n_message_Same [(.agg a), (.agg b)].toArray h R :=
  fn_sound (A := A_message_Same) (Eq.mp (by kernel_rfl : F_message_Same a b h R = fnVc Go.Proofs.Tryz.prog A_message_Same 6 [(.agg a), (.agg b)] h R) H)

end Go.Proofs.YthlmiijlhiiccaaGreat
