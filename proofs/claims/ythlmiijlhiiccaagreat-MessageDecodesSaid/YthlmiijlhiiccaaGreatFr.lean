/- The formulas of some functions, and that each is what its code comes to. Written by a program of ours. -/
import Derived.Test.YthlmiijlhiiccaaGreatV
import Derived.Test.YthlmiijlhiiccaaGreatNm
import Derived.Test.YthlmiijlhiiccaaGreatProg
import Derived.KernelRfl
set_option linter.unusedVariables false
set_option maxRecDepth 100000
namespace Go.Proofs.YthlmiijlhiiccaaGreat
open Go Go.Vc Go.Proofs

/- (*rolodex/rolodexref18.Out).number -/
def A_ref18_Out_number : Ann := { qs := [4, 5, 6, 7, 8, 9, 10, 11, 13, 14, 16, 17, 18, 19, 20, 21, 22, 23, 24, 25, 27, 37, 38, 41, 42, 58, 59, 60, 61, 62, 81, 86, 93, 94, 98, 106, 108, 109, 110, 112], plans := [(2, (.take 0 (.take 1 (.take 2 (.take 3 (.take 4 (.take 5 (.take 6 (.take 7 (.alt 8 (.alt 9 (.take 10 (.take 11 (.alt 12 .done .stop))) .stop) .stop))))))))))] }
def F_ref18_Out_number (o : Option Addr) (n : Int) (least : Int) (most : Int) (bytes : Int) (h : Heap) (R : Value → Heap → Prop) : Prop :=
 br (decide (n < least)) (deref o fun (a0 : Addr) => storeP none h (Addr.mk (Addr.block a0) (Addr.off a0 + (1 : Nat)) none) (Value.bool false) fun (h1 : Heap) => R (Value.tuple #[]) h1)
 (br (decide (n > most)) (deref o fun (a2 : Addr) => storeP none h (Addr.mk (Addr.block a2) (Addr.off a2 + (1 : Nat)) none) (Value.bool false) fun (h3 : Heap) => R (Value.tuple #[]) h3)
 (deref o fun (a4 : Addr) =>
 ∃ (p5 : Option Addr),
 ∃ (l6 : Nat),
 ∃ (c7 : Nat),
 cell h (Addr.add a4 (0 : Nat)) = some (Value.slice p5 l6 c7) ∧
 CallsH Tryz.prog n_ref01_Number #[Value.int IntKind.u64 (IntKind.wrap IntKind.u64 n), Value.int IntKind.i64 bytes] h fun (v8 : Value) (h9 : Heap) =>
 Ext h h9 ∧
 ∃ (p10 : Option Addr),
 ∃ (l11 : Nat),
 ∃ (c12 : Nat),
 v8 = Value.slice p10 l11 c12 ∧
 appendP (5 : Nat) (1 : Nat) (1 : Nat) #[Value.int IntKind.u8 (0 : Int)] p5 l6 c7 p10 l11 h9 fun (p13 : Option Addr) (l14 c15 : Nat) (h16 : Heap) =>
 deref o fun (a17 : Addr) => storeP none h16 a17 (Value.slice p13 l14 c15) fun (h18 : Heap) => R (Value.tuple #[]) h18))
theorem C_ref18_Out_number (o : Option Addr) (n : Int) (least : Int) (most : Int) (bytes : Int) {h : Heap} {R : Value → Heap → Prop} (H : F_ref18_Out_number o n least most bytes h R) : CallsH Tryz.prog n_ref18_Out_number [(.pointer o), (.int .i64 n), (.int .i64 least), (.int .i64 most), (.int .i64 bytes)].toArray h R :=
  fn_sound (A := A_ref18_Out_number) (Eq.mp (by kernel_rfl : F_ref18_Out_number o n least most bytes h R = fnVc Go.Proofs.Tryz.prog A_ref18_Out_number 26 [(.pointer o), (.int .i64 n), (.int .i64 least), (.int .i64 most), (.int .i64 bytes)] h R) H)

/- (*rolodex/rolodexref18.Out).text -/
def A_ref18_Out_text : Ann := { qs := [4, 5, 6, 7, 8, 9, 10, 11, 13, 14, 16, 17, 18, 19, 20, 21, 22, 23, 24, 25, 27, 37, 38, 41, 42, 58, 59, 60, 61, 62, 81, 86, 93, 94, 98, 106, 108, 109, 110, 112] }
def F_ref18_Out_text (o : Option Addr) (b : Option Addr) (b_l : Nat) (b_c : Nat) (h : Heap) (R : Value → Heap → Prop) : Prop :=
 CallsH Tryz.prog n_ref18_Out_number #[Value.pointer o, Value.int IntKind.i64 (↑b_l : Int), Value.int IntKind.i64 (0 : Int), Value.int IntKind.i64 (64 : Int), Value.int IntKind.i64 (2 : Int)] h
 fun (v0 : Value) (h1 : Heap) =>
 v0 = Value.tuple #[] ∧
 deref o fun (a2 : Addr) =>
 ∃ (p3 : Option Addr),
 ∃ (l4 : Nat),
 ∃ (c5 : Nat),
 cell h1 (Addr.add a2 (0 : Nat)) = some (Value.slice p3 l4 c5) ∧
 appendP (5 : Nat) (1 : Nat) (1 : Nat) #[Value.int IntKind.u8 (0 : Int)] p3 l4 c5 b b_l h1 fun (p6 : Option Addr) (l7 c8 : Nat) (h9 : Heap) =>
 deref o fun (a10 : Addr) => storeP none h9 a10 (Value.slice p6 l7 c8) fun (h11 : Heap) => R (Value.tuple #[]) h11
theorem C_ref18_Out_text (o : Option Addr) (b : Option Addr) (b_l : Nat) (b_c : Nat) {h : Heap} {R : Value → Heap → Prop} (H : F_ref18_Out_text o b b_l b_c h R) : CallsH Tryz.prog n_ref18_Out_text [(.pointer o), (.slice b b_l b_c)].toArray h R :=
  fn_sound (A := A_ref18_Out_text) (Eq.mp (by kernel_rfl : F_ref18_Out_text o b b_l b_c h R = fnVc Go.Proofs.Tryz.prog A_ref18_Out_text 28 [(.pointer o), (.slice b b_l b_c)] h R) H)

/- (*rolodex/rolodexref18.Out).hash -/
def A_ref18_Out_hash : Ann := { qs := [4, 5, 6, 7, 8, 9, 10, 11, 13, 14, 16, 17, 18, 19, 20, 21, 22, 23, 24, 25, 27, 37, 38, 41, 42, 58, 59, 60, 61, 62, 81, 86, 93, 94, 98, 106, 108, 109, 110, 112], plans := [(1, (.take 0 (.take 1 (.take 2 (.take 3 (.take 4 (.take 5 (.alt 6 (.take 7 (.take 8 (.alt 9 .done .stop))) .stop))))))))] }
def F_ref18_Out_hash (o : Option Addr) (h_ : Array Value) (h : Heap) (R : Value → Heap → Prop) : Prop :=
 newBlk h (26 : Nat) h_ fun (b0 : Nat) (h1 : Heap) =>
 deref o fun (a2 : Addr) =>
 ∃ (p3 : Option Addr),
 ∃ (l4 : Nat),
 ∃ (c5 : Nat),
 cell h1 (Addr.add a2 (0 : Nat)) = some (Value.slice p3 l4 c5) ∧
 sliceP (1 : Nat) (some (Addr.mk b0 (0 : Nat) none)) (0 : Int) (↑(32 : Nat) : Int) (↑(32 : Nat) : Int) (32 : Nat) fun (p6 : Option Addr) (l7 c8 : Nat) =>
 appendP (5 : Nat) (1 : Nat) (1 : Nat) #[Value.int IntKind.u8 (0 : Int)] p3 l4 c5 p6 l7 h1 fun (p9 : Option Addr) (l10 c11 : Nat) (h12 : Heap) =>
 deref o fun (a13 : Addr) => storeP none h12 a13 (Value.slice p9 l10 c11) fun (h14 : Heap) => R (Value.tuple #[]) h14
theorem C_ref18_Out_hash (o : Option Addr) (h_ : Array Value) {h : Heap} {R : Value → Heap → Prop} (H : F_ref18_Out_hash o h_ h R) : CallsH Tryz.prog n_ref18_Out_hash [(.pointer o), (.agg h_)].toArray h R :=
  fn_sound (A := A_ref18_Out_hash) (Eq.mp (by kernel_rfl : F_ref18_Out_hash o h_ h R = fnVc Go.Proofs.Tryz.prog A_ref18_Out_hash 31 [(.pointer o), (.agg h_)] h R) H)

/- (*rolodex/rolodexref18.Out).hashes -/
def A_ref18_Out_hashes : Ann := { qs := [4, 5, 6, 7, 8, 9, 10, 11, 13, 14, 16, 17, 18, 19, 20, 21, 22, 23, 24, 25, 27, 37, 38, 41, 42, 58, 59, 60, 61, 62, 81, 86, 93, 94, 98, 106, 108, 109, 110, 112], loops := [(2, [(4, (.int .i64))])] }
def F_ref18_Out_hashes (o : Option Addr) (l : Option Addr) (l_l : Nat) (l_c : Nat) (h : Heap) (R : Value → Heap → Prop) : Prop :=
 CallsH Tryz.prog n_ref18_Out_number #[Value.pointer o, Value.int IntKind.i64 (↑l_l : Int), Value.int IntKind.i64 (0 : Int), Value.int IntKind.i64 (4096 : Int), Value.int IntKind.i64 (2 : Int)] h
 fun (v0 : Value) (h1 : Heap) =>
 v0 = Value.tuple #[] ∧
 ∃ (I2 : Int → Heap → Prop),
 ∃ (μ3 : Int → Heap → Nat),
 I2 (0 : Int) h1 ∧
 ∀ (n4 : Int) (h5 : Heap),
 I2 n4 h5 →
 br (decide (n4 < (↑l_l : Int)))
 ((0 : Int) ≤ n4 ∧
 n4 < (↑l_l : Int) ∧
 deref l fun (a6 : Addr) =>
 ∃ (cs7 : Array Value),
 row h5 (Addr.add a6 (Int.toNat n4 * (32 : Nat))) (32 : Nat) = some cs7 ∧
 CallsH Tryz.prog n_ref18_Out_hash #[Value.pointer o, Value.agg cs7] h5 fun (v8 : Value) (h9 : Heap) =>
 v8 = Value.tuple #[] ∧ I2 (IntKind.wrap IntKind.i64 (n4 + (1 : Int))) h9 ∧ μ3 (IntKind.wrap IntKind.i64 (n4 + (1 : Int))) h9 < μ3 n4 h5)
 (R (Value.tuple #[]) h5)
theorem C_ref18_Out_hashes (o : Option Addr) (l : Option Addr) (l_l : Nat) (l_c : Nat) {h : Heap} {R : Value → Heap → Prop} (H : F_ref18_Out_hashes o l l_l l_c h R) : CallsH Tryz.prog n_ref18_Out_hashes [(.pointer o), (.slice l l_l l_c)].toArray h R :=
  fn_sound (A := A_ref18_Out_hashes) (Eq.mp (by kernel_rfl : F_ref18_Out_hashes o l l_l l_c h R = fnVc Go.Proofs.Tryz.prog A_ref18_Out_hashes 36 [(.pointer o), (.slice l l_l l_c)] h R) H)

/- (*rolodex/rolodexref18.Out).trail -/
def A_ref18_Out_trail : Ann := { qs := [4, 5, 6, 7, 8, 9, 10, 11, 13, 14, 16, 17, 18, 19, 20, 21, 22, 23, 24, 25, 27, 37, 38, 41, 42, 58, 59, 60, 61, 62, 81, 86, 93, 94, 98, 106, 108, 109, 110, 112] }
def F_ref18_Out_trail (o : Option Addr) (t : Array Value) (h : Heap) (R : Value → Heap → Prop) : Prop :=
 newBlk h (33 : Nat) t fun (b0 : Nat) (h1 : Heap) =>
 ∃ (p2 : Option Addr),
 ∃ (l3 : Nat),
 ∃ (c4 : Nat),
 cell h1 (Addr.add (Addr.mk b0 (0 : Nat) none) (0 : Nat)) = some (Value.slice p2 l3 c4) ∧
 CallsH Tryz.prog n_ref18_Out_hashes #[Value.pointer o, Value.slice p2 l3 c4] h1 fun (v5 : Value) (h6 : Heap) =>
 v5 = Value.tuple #[] ∧
 ∃ (p7 : Option Addr),
 ∃ (l8 : Nat),
 ∃ (c9 : Nat),
 cell h6 (Addr.add (Addr.mk b0 (0 : Nat) none) (1 : Nat)) = some (Value.slice p7 l8 c9) ∧
 CallsH Tryz.prog n_ref18_Out_hashes #[Value.pointer o, Value.slice p7 l8 c9] h6 fun (v10 : Value) (h11 : Heap) => v10 = Value.tuple #[] ∧ R (Value.tuple #[]) h11
theorem C_ref18_Out_trail (o : Option Addr) (t : Array Value) {h : Heap} {R : Value → Heap → Prop} (H : F_ref18_Out_trail o t h R) : CallsH Tryz.prog n_ref18_Out_trail [(.pointer o), (.agg t)].toArray h R :=
  fn_sound (A := A_ref18_Out_trail) (Eq.mp (by kernel_rfl : F_ref18_Out_trail o t h R = fnVc Go.Proofs.Tryz.prog A_ref18_Out_trail 30 [(.pointer o), (.agg t)] h R) H)

/- (*rolodex/rolodexref18.Out).prefix -/
def A_ref18_Out_prefix : Ann := { qs := [4, 5, 6, 7, 8, 9, 10, 11, 13, 14, 16, 17, 18, 19, 20, 21, 22, 23, 24, 25, 27, 37, 38, 41, 42, 58, 59, 60, 61, 62, 81, 86, 93, 94, 98, 106, 108, 109, 110, 112] }
def F_ref18_Out_prefix (o : Option Addr) (p : Array Value) (h : Heap) (R : Value → Heap → Prop) : Prop :=
 newBlk h (36 : Nat) p fun (b0 : Nat) (h1 : Heap) =>
 deref o fun (a2 : Addr) =>
 ∃ (t3 : Bool),
 cell h1 (Addr.add a2 (1 : Nat)) = some (Value.bool t3) ∧
 br t3
 (∃ (cs4 : Array Value),
 row h1 (Addr.mk b0 (0 : Nat) none) (33 : Nat) = some cs4 ∧
 CallsH Tryz.prog n_ref03_Formed #[Value.agg cs4] h1 fun (v5 : Value) (h6 : Heap) =>
 Ext h1 h6 ∧
 ∃ (t7 : Bool),
 v5 = Value.bool t7 ∧
 deref o fun (a8 : Addr) =>
 storeP none h6 (Addr.mk (Addr.block a8) (Addr.off a8 + (1 : Nat)) none) (Value.bool t7) fun (h9 : Heap) =>
 ∃ (n10 : Int),
 cell h9 (Addr.add (Addr.mk b0 (0 : Nat) none) (0 : Nat)) = some (Value.int IntKind.i64 n10) ∧
 CallsH Tryz.prog n_ref18_Out_number
 #[Value.pointer o, Value.int IntKind.i64 n10, Value.int IntKind.i64 (0 : Int), Value.int IntKind.i64 (256 : Int), Value.int IntKind.i64 (2 : Int)] h9
 fun (v11 : Value) (h12 : Heap) =>
 v11 = Value.tuple #[] ∧
 ∃ (cs13 : Array Value),
 row h12 (Addr.add (Addr.mk b0 (0 : Nat) none) (1 : Nat)) (32 : Nat) = some cs13 ∧
 CallsH Tryz.prog n_ref18_Out_hash #[Value.pointer o, Value.agg cs13] h12 fun (v14 : Value) (h15 : Heap) => v14 = Value.tuple #[] ∧ R (Value.tuple #[]) h15)
 (deref o fun (a16 : Addr) =>
 storeP none h1 (Addr.mk (Addr.block a16) (Addr.off a16 + (1 : Nat)) none) (Value.bool false) fun (h17 : Heap) =>
 ∃ (n18 : Int),
 cell h17 (Addr.add (Addr.mk b0 (0 : Nat) none) (0 : Nat)) = some (Value.int IntKind.i64 n18) ∧
 CallsH Tryz.prog n_ref18_Out_number #[Value.pointer o, Value.int IntKind.i64 n18, Value.int IntKind.i64 (0 : Int), Value.int IntKind.i64 (256 : Int), Value.int IntKind.i64 (2 : Int)] h17
 fun (v19 : Value) (h20 : Heap) =>
 v19 = Value.tuple #[] ∧
 ∃ (cs21 : Array Value),
 row h20 (Addr.add (Addr.mk b0 (0 : Nat) none) (1 : Nat)) (32 : Nat) = some cs21 ∧
 CallsH Tryz.prog n_ref18_Out_hash #[Value.pointer o, Value.agg cs21] h20 fun (v22 : Value) (h23 : Heap) => v22 = Value.tuple #[] ∧ R (Value.tuple #[]) h23)
theorem C_ref18_Out_prefix (o : Option Addr) (p : Array Value) {h : Heap} {R : Value → Heap → Prop} (H : F_ref18_Out_prefix o p h R) : CallsH Tryz.prog n_ref18_Out_prefix [(.pointer o), (.agg p)].toArray h R :=
  fn_sound (A := A_ref18_Out_prefix) (Eq.mp (by kernel_rfl : F_ref18_Out_prefix o p h R = fnVc Go.Proofs.Tryz.prog A_ref18_Out_prefix 63 [(.pointer o), (.agg p)] h R) H)

/- (*rolodex/rolodexref18.Out).proof -/
def A_ref18_Out_proof : Ann := { qs := [4, 5, 6, 7, 8, 9, 10, 11, 13, 14, 16, 17, 18, 19, 20, 21, 22, 23, 24, 25, 27, 37, 38, 41, 42, 58, 59, 60, 61, 62, 81, 86, 93, 94, 98, 106, 108, 109, 110, 112], loops := [(3, [(4, (.int .i64))])], cuts := [(11, [])] }
def F_ref18_Out_proof (o : Option Addr) (p : Array Value) (h : Heap) (R : Value → Heap → Prop) : Prop :=
 newBlk h (38 : Nat) p fun (b0 : Nat) (h1 : Heap) =>
 ∃ (p2 : Option Addr),
 ∃ (l3 : Nat),
 ∃ (c4 : Nat),
 cell h1 (Addr.add (Addr.mk b0 (0 : Nat) none) (0 : Nat)) = some (Value.slice p2 l3 c4) ∧
 CallsH Tryz.prog n_ref18_Out_number #[Value.pointer o, Value.int IntKind.i64 (↑l3 : Int), Value.int IntKind.i64 (0 : Int), Value.int IntKind.i64 (4096 : Int), Value.int IntKind.i64 (2 : Int)] h1
 fun (v5 : Value) (h6 : Heap) =>
 v5 = Value.tuple #[] ∧
 ∃ (I7 : Int → Heap → Prop),
 ∃ (μ8 : Int → Heap → Nat),
 I7 (0 : Int) h6 ∧
 ∀ (n9 : Int) (h10 : Heap),
 I7 n9 h10 →
 ∃ (p11 : Option Addr),
 ∃ (l12 : Nat),
 ∃ (c13 : Nat),
 cell h10 (Addr.add (Addr.mk b0 (0 : Nat) none) (0 : Nat)) = some (Value.slice p11 l12 c13) ∧
 br (decide (n9 < (↑l12 : Int)))
 (∃ (p14 : Option Addr),
 ∃ (l15 : Nat),
 ∃ (c16 : Nat),
 cell h10 (Addr.add (Addr.mk b0 (0 : Nat) none) (0 : Nat)) = some (Value.slice p14 l15 c16) ∧
 (0 : Int) ≤ n9 ∧
 n9 < (↑l15 : Int) ∧
 deref p14 fun (a17 : Addr) =>
 ∃ (cs18 : Array Value),
 row h10 (Addr.add (Addr.add a17 (Int.toNat n9 * (65 : Nat))) (0 : Nat)) (33 : Nat) = some cs18 ∧
 CallsH Tryz.prog n_ref18_Out_prefix #[Value.pointer o, Value.agg cs18] h10 fun (v19 : Value) (h20 : Heap) =>
 v19 = Value.tuple #[] ∧
 ∃ (p21 : Option Addr),
 ∃ (l22 : Nat),
 ∃ (c23 : Nat),
 cell h20 (Addr.add (Addr.mk b0 (0 : Nat) none) (0 : Nat)) = some (Value.slice p21 l22 c23) ∧
 (0 : Int) ≤ n9 ∧
 n9 < (↑l22 : Int) ∧
 deref p21 fun (a24 : Addr) =>
 ∃ (cs25 : Array Value),
 row h20 (Addr.add (Addr.add a24 (Int.toNat n9 * (65 : Nat))) (33 : Nat)) (32 : Nat) = some cs25 ∧
 CallsH Tryz.prog n_ref18_Out_hash #[Value.pointer o, Value.agg cs25] h20 fun (v26 : Value) (h27 : Heap) =>
 v26 = Value.tuple #[] ∧
 I7 (IntKind.wrap IntKind.i64 (n9 + (1 : Int))) h27 ∧ μ8 (IntKind.wrap IntKind.i64 (n9 + (1 : Int))) h27 < μ8 n9 h10)
 (∃ (n28 : Int),
 cell h10 (Addr.add (Addr.mk b0 (0 : Nat) none) (1 : Nat)) = some (Value.int IntKind.i64 n28) ∧
 CallsH Tryz.prog n_ref18_Out_number
 #[Value.pointer o, Value.int IntKind.i64 n28, Value.int IntKind.i64 (0 : Int), Value.int IntKind.i64 (2 : Int), Value.int IntKind.i64 (1 : Int)] h10
 fun (v29 : Value) (h30 : Heap) =>
 v29 = Value.tuple #[] ∧
 ∃ (J31 : PUnit → Heap → Prop),
 (∃ (n32 : Int),
 cell h30 (Addr.add (Addr.mk b0 (0 : Nat) none) (1 : Nat)) = some (Value.int IntKind.i64 n32) ∧
 br (n32 == (1 : Int))
 (∃ (cs33 : Array Value),
 row h30 (Addr.add (Addr.mk b0 (0 : Nat) none) (2 : Nat)) (32 : Nat) = some cs33 ∧
 CallsH Tryz.prog n_ref18_Out_hash #[Value.pointer o, Value.agg cs33] h30 fun (v34 : Value) (h35 : Heap) =>
 v34 = Value.tuple #[] ∧
 ∃ (cs36 : Array Value),
 row h35 (Addr.add (Addr.mk b0 (0 : Nat) none) (34 : Nat)) (32 : Nat) = some cs36 ∧
 CallsH Tryz.prog n_ref18_Out_hash #[Value.pointer o, Value.agg cs36] h35 fun (v37 : Value) (h38 : Heap) => v37 = Value.tuple #[] ∧ J31 () h38)
 (J31 () h30)) ∧
 ∀ (x39 : PUnit) (h40 : Heap),
 J31 x39 h40 →
 ∃ (n41 : Int),
 cell h40 (Addr.add (Addr.mk b0 (0 : Nat) none) (1 : Nat)) = some (Value.int IntKind.i64 n41) ∧
 br (n41 == (2 : Int))
 (∃ (cs42 : Array Value),
 row h40 (Addr.add (Addr.mk b0 (0 : Nat) none) (66 : Nat)) (33 : Nat) = some cs42 ∧
 CallsH Tryz.prog n_ref18_Out_prefix #[Value.pointer o, Value.agg cs42] h40 fun (v43 : Value) (h44 : Heap) =>
 v43 = Value.tuple #[] ∧
 ∃ (cs45 : Array Value),
 row h44 (Addr.add (Addr.mk b0 (0 : Nat) none) (99 : Nat)) (32 : Nat) = some cs45 ∧
 CallsH Tryz.prog n_ref18_Out_hash #[Value.pointer o, Value.agg cs45] h44 fun (v46 : Value) (h47 : Heap) =>
 v46 = Value.tuple #[] ∧
 ∃ (cs48 : Array Value),
 row h47 (Addr.add (Addr.mk b0 (0 : Nat) none) (131 : Nat)) (32 : Nat) = some cs48 ∧
 CallsH Tryz.prog n_ref18_Out_hash #[Value.pointer o, Value.agg cs48] h47 fun (v49 : Value) (h50 : Heap) =>
 v49 = Value.tuple #[] ∧ R (Value.tuple #[]) h50)
 (R (Value.tuple #[]) h40))
theorem C_ref18_Out_proof (o : Option Addr) (p : Array Value) {h : Heap} {R : Value → Heap → Prop} (H : F_ref18_Out_proof o p h R) : CallsH Tryz.prog n_ref18_Out_proof [(.pointer o), (.agg p)].toArray h R :=
  fn_sound (A := A_ref18_Out_proof) (Eq.mp (by kernel_rfl : F_ref18_Out_proof o p h R = fnVc Go.Proofs.Tryz.prog A_ref18_Out_proof 32 [(.pointer o), (.agg p)] h R) H)

/- (*rolodex/rolodexref18.Out).version -/
def A_ref18_Out_version : Ann := { qs := [4, 5, 6, 7, 8, 9, 10, 11, 13, 14, 16, 17, 18, 19, 20, 21, 22, 23, 24, 25, 27, 37, 38, 41, 42, 58, 59, 60, 61, 62, 81, 86, 93, 94, 98, 106, 108, 109, 110, 112] }
def F_ref18_Out_version (o : Option Addr) (v : Array Value) (h : Heap) (R : Value → Heap → Prop) : Prop :=
 newBlk h (70 : Nat) v fun (b0 : Nat) (h1 : Heap) =>
 ∃ (n2 : Int),
 cell h1 (Addr.add (Addr.mk b0 (0 : Nat) none) (0 : Nat)) = some (Value.int IntKind.i64 n2) ∧
 CallsH Tryz.prog n_ref18_Out_number #[Value.pointer o, Value.int IntKind.i64 n2, Value.int IntKind.i64 (0 : Int), Value.int IntKind.i64 (2147483647 : Int), Value.int IntKind.i64 (4 : Int)] h1
 fun (v3 : Value) (h4 : Heap) =>
 v3 = Value.tuple #[] ∧
 ∃ (n5 : Int),
 cell h4 (Addr.add (Addr.mk b0 (0 : Nat) none) (1 : Nat)) = some (Value.int IntKind.i64 n5) ∧
 CallsH Tryz.prog n_ref18_Out_number #[Value.pointer o, Value.int IntKind.i64 n5, Value.int IntKind.i64 (0 : Int), Value.int IntKind.i64 (2147483647 : Int), Value.int IntKind.i64 (4 : Int)] h4
 fun (v6 : Value) (h7 : Heap) =>
 v6 = Value.tuple #[] ∧
 ∃ (cs8 : Array Value),
 row h7 (Addr.add (Addr.mk b0 (0 : Nat) none) (2 : Nat)) (32 : Nat) = some cs8 ∧
 CallsH Tryz.prog n_ref18_Out_hash #[Value.pointer o, Value.agg cs8] h7 fun (v9 : Value) (h10 : Heap) =>
 v9 = Value.tuple #[] ∧
 ∃ (cs11 : Array Value),
 row h10 (Addr.add (Addr.mk b0 (0 : Nat) none) (34 : Nat)) (32 : Nat) = some cs11 ∧
 CallsH Tryz.prog n_ref18_Out_hash #[Value.pointer o, Value.agg cs11] h10 fun (v12 : Value) (h13 : Heap) =>
 v12 = Value.tuple #[] ∧
 ∃ (p14 : Option Addr),
 ∃ (l15 : Nat),
 ∃ (c16 : Nat),
 cell h13 (Addr.add (Addr.mk b0 (0 : Nat) none) (66 : Nat)) = some (Value.slice p14 l15 c16) ∧
 CallsH Tryz.prog n_ref18_Out_text #[Value.pointer o, Value.slice p14 l15 c16] h13 fun (v17 : Value) (h18 : Heap) => v17 = Value.tuple #[] ∧ R (Value.tuple #[]) h18
theorem C_ref18_Out_version (o : Option Addr) (v : Array Value) {h : Heap} {R : Value → Heap → Prop} (H : F_ref18_Out_version o v h R) : CallsH Tryz.prog n_ref18_Out_version [(.pointer o), (.agg v)].toArray h R :=
  fn_sound (A := A_ref18_Out_version) (Eq.mp (by kernel_rfl : F_ref18_Out_version o v h R = fnVc Go.Proofs.Tryz.prog A_ref18_Out_version 64 [(.pointer o), (.agg v)] h R) H)

/- (*rolodex/rolodexref18.Out).chain -/
def A_ref18_Out_chain : Ann := { qs := [4, 5, 6, 7, 8, 9, 10, 11, 13, 14, 16, 17, 18, 19, 20, 21, 22, 23, 24, 25, 27, 37, 38, 41, 42, 58, 59, 60, 61, 62, 81, 86, 93, 94, 98, 106, 108, 109, 110, 112], loops := [(2, [(4, (.int .i64))])] }
def F_ref18_Out_chain (o : Option Addr) (l : Option Addr) (l_l : Nat) (l_c : Nat) (h : Heap) (R : Value → Heap → Prop) : Prop :=
 CallsH Tryz.prog n_ref18_Out_number #[Value.pointer o, Value.int IntKind.i64 (↑l_l : Int), Value.int IntKind.i64 (0 : Int), Value.int IntKind.i64 (4096 : Int), Value.int IntKind.i64 (2 : Int)] h
 fun (v0 : Value) (h1 : Heap) =>
 v0 = Value.tuple #[] ∧
 ∃ (I2 : Int → Heap → Prop),
 ∃ (μ3 : Int → Heap → Nat),
 I2 (0 : Int) h1 ∧
 ∀ (n4 : Int) (h5 : Heap),
 I2 n4 h5 →
 br (decide (n4 < (↑l_l : Int)))
 ((0 : Int) ≤ n4 ∧
 n4 < (↑l_l : Int) ∧
 deref l fun (a6 : Addr) =>
 ∃ (cs7 : Array Value),
 row h5 (Addr.add a6 (Int.toNat n4 * (67 : Nat))) (67 : Nat) = some cs7 ∧
 CallsH Tryz.prog n_ref18_Out_version #[Value.pointer o, Value.agg cs7] h5 fun (v8 : Value) (h9 : Heap) =>
 v8 = Value.tuple #[] ∧ I2 (IntKind.wrap IntKind.i64 (n4 + (1 : Int))) h9 ∧ μ3 (IntKind.wrap IntKind.i64 (n4 + (1 : Int))) h9 < μ3 n4 h5)
 (R (Value.tuple #[]) h5)
theorem C_ref18_Out_chain (o : Option Addr) (l : Option Addr) (l_l : Nat) (l_c : Nat) {h : Heap} {R : Value → Heap → Prop} (H : F_ref18_Out_chain o l l_l l_c h R) : CallsH Tryz.prog n_ref18_Out_chain [(.pointer o), (.slice l l_l l_c)].toArray h R :=
  fn_sound (A := A_ref18_Out_chain) (Eq.mp (by kernel_rfl : F_ref18_Out_chain o l l_l l_c h R = fnVc Go.Proofs.Tryz.prog A_ref18_Out_chain 33 [(.pointer o), (.slice l l_l l_c)] h R) H)

/- (*rolodex/rolodexref18.Out).rows -/
def A_ref18_Out_rows : Ann := { qs := [4, 5, 6, 7, 8, 9, 10, 11, 13, 14, 16, 17, 18, 19, 20, 21, 22, 23, 24, 25, 27, 37, 38, 41, 42, 58, 59, 60, 61, 62, 81, 86, 93, 94, 98, 106, 108, 109, 110, 112], loops := [(2, [(4, (.int .i64))])] }
def F_ref18_Out_rows (o : Option Addr) (l : Option Addr) (l_l : Nat) (l_c : Nat) (h : Heap) (R : Value → Heap → Prop) : Prop :=
 CallsH Tryz.prog n_ref18_Out_number #[Value.pointer o, Value.int IntKind.i64 (↑l_l : Int), Value.int IntKind.i64 (0 : Int), Value.int IntKind.i64 (4096 : Int), Value.int IntKind.i64 (2 : Int)] h
 fun (v0 : Value) (h1 : Heap) =>
 v0 = Value.tuple #[] ∧
 ∃ (I2 : Int → Heap → Prop),
 ∃ (μ3 : Int → Heap → Nat),
 I2 (0 : Int) h1 ∧
 ∀ (n4 : Int) (h5 : Heap),
 I2 n4 h5 →
 br (decide (n4 < (↑l_l : Int)))
 ((0 : Int) ≤ n4 ∧
 n4 < (↑l_l : Int) ∧
 deref l fun (a6 : Addr) =>
 ∃ (t7 : Bool),
 cell h5 (Addr.add (Addr.add a6 (Int.toNat n4 * (162 : Nat))) (0 : Nat)) = some (Value.bool t7) ∧
 br t7
 (CallsH Tryz.prog n_ref18_Out_number
 #[Value.pointer o, Value.int IntKind.i64 (1 : Int), Value.int IntKind.i64 (0 : Int), Value.int IntKind.i64 (1 : Int), Value.int IntKind.i64 (1 : Int)] h5
 fun (v8 : Value) (h9 : Heap) =>
 v8 = Value.tuple #[] ∧
 (0 : Int) ≤ n4 ∧
 n4 < (↑l_l : Int) ∧
 deref l fun (a10 : Addr) =>
 ∃ (cs11 : Array Value),
 row h9 (Addr.add (Addr.add a10 (Int.toNat n4 * (162 : Nat))) (1 : Nat)) (32 : Nat) = some cs11 ∧
 CallsH Tryz.prog n_ref18_Out_hash #[Value.pointer o, Value.agg cs11] h9 fun (v12 : Value) (h13 : Heap) =>
 v12 = Value.tuple #[] ∧
 (0 : Int) ≤ n4 ∧
 n4 < (↑l_l : Int) ∧
 deref l fun (a14 : Addr) =>
 ∃ (cs15 : Array Value),
 row h13 (Addr.add (Addr.add a14 (Int.toNat n4 * (162 : Nat))) (33 : Nat)) (32 : Nat) = some cs15 ∧
 CallsH Tryz.prog n_ref18_Out_hash #[Value.pointer o, Value.agg cs15] h13 fun (v16 : Value) (h17 : Heap) =>
 v16 = Value.tuple #[] ∧ I2 (IntKind.wrap IntKind.i64 (n4 + (1 : Int))) h17 ∧ μ3 (IntKind.wrap IntKind.i64 (n4 + (1 : Int))) h17 < μ3 n4 h5)
 (CallsH Tryz.prog n_ref18_Out_number
 #[Value.pointer o, Value.int IntKind.i64 (0 : Int), Value.int IntKind.i64 (0 : Int), Value.int IntKind.i64 (1 : Int), Value.int IntKind.i64 (1 : Int)] h5
 fun (v18 : Value) (h19 : Heap) =>
 v18 = Value.tuple #[] ∧
 (0 : Int) ≤ n4 ∧
 n4 < (↑l_l : Int) ∧
 deref l fun (a20 : Addr) =>
 ∃ (cs21 : Array Value),
 row h19 (Addr.add (Addr.add a20 (Int.toNat n4 * (162 : Nat))) (65 : Nat)) (33 : Nat) = some cs21 ∧
 CallsH Tryz.prog n_ref18_Out_prefix #[Value.pointer o, Value.agg cs21] h19 fun (v22 : Value) (h23 : Heap) =>
 v22 = Value.tuple #[] ∧
 (0 : Int) ≤ n4 ∧
 n4 < (↑l_l : Int) ∧
 deref l fun (a24 : Addr) =>
 ∃ (cs25 : Array Value),
 row h23 (Addr.add (Addr.add a24 (Int.toNat n4 * (162 : Nat))) (98 : Nat)) (32 : Nat) = some cs25 ∧
 CallsH Tryz.prog n_ref18_Out_hash #[Value.pointer o, Value.agg cs25] h23 fun (v26 : Value) (h27 : Heap) =>
 v26 = Value.tuple #[] ∧
 (0 : Int) ≤ n4 ∧
 n4 < (↑l_l : Int) ∧
 deref l fun (a28 : Addr) =>
 ∃ (cs29 : Array Value),
 row h27 (Addr.add (Addr.add a28 (Int.toNat n4 * (162 : Nat))) (130 : Nat)) (32 : Nat) = some cs29 ∧
 CallsH Tryz.prog n_ref18_Out_hash #[Value.pointer o, Value.agg cs29] h27 fun (v30 : Value) (h31 : Heap) =>
 v30 = Value.tuple #[] ∧
 I2 (IntKind.wrap IntKind.i64 (n4 + (1 : Int))) h31 ∧ μ3 (IntKind.wrap IntKind.i64 (n4 + (1 : Int))) h31 < μ3 n4 h5))
 (R (Value.tuple #[]) h5)
theorem C_ref18_Out_rows (o : Option Addr) (l : Option Addr) (l_l : Nat) (l_c : Nat) {h : Heap} {R : Value → Heap → Prop} (H : F_ref18_Out_rows o l l_l l_c h R) : CallsH Tryz.prog n_ref18_Out_rows [(.pointer o), (.slice l l_l l_c)].toArray h R :=
  fn_sound (A := A_ref18_Out_rows) (Eq.mp (by kernel_rfl : F_ref18_Out_rows o l l_l l_c h R = fnVc Go.Proofs.Tryz.prog A_ref18_Out_rows 34 [(.pointer o), (.slice l l_l l_c)] h R) H)

/- (*rolodex/rolodexref18.Out).news -/
def A_ref18_Out_news : Ann := { qs := [4, 5, 6, 7, 8, 9, 10, 11, 13, 14, 16, 17, 18, 19, 20, 21, 22, 23, 24, 25, 27, 37, 38, 41, 42, 58, 59, 60, 61, 62, 81, 86, 93, 94, 98, 106, 108, 109, 110, 112], loops := [(2, [(4, (.int .i64))])] }
def F_ref18_Out_news (o : Option Addr) (l : Option Addr) (l_l : Nat) (l_c : Nat) (h : Heap) (R : Value → Heap → Prop) : Prop :=
 CallsH Tryz.prog n_ref18_Out_number #[Value.pointer o, Value.int IntKind.i64 (↑l_l : Int), Value.int IntKind.i64 (0 : Int), Value.int IntKind.i64 (4096 : Int), Value.int IntKind.i64 (2 : Int)] h
 fun (v0 : Value) (h1 : Heap) =>
 v0 = Value.tuple #[] ∧
 ∃ (I2 : Int → Heap → Prop),
 ∃ (μ3 : Int → Heap → Nat),
 I2 (0 : Int) h1 ∧
 ∀ (n4 : Int) (h5 : Heap),
 I2 n4 h5 →
 br (decide (n4 < (↑l_l : Int)))
 ((0 : Int) ≤ n4 ∧
 n4 < (↑l_l : Int) ∧
 deref l fun (a6 : Addr) =>
 ∃ (p7 : Option Addr),
 ∃ (l8 : Nat),
 ∃ (c9 : Nat),
 cell h5 (Addr.add (Addr.add a6 (Int.toNat n4 * (68 : Nat))) (0 : Nat)) = some (Value.slice p7 l8 c9) ∧
 CallsH Tryz.prog n_ref18_Out_text #[Value.pointer o, Value.slice p7 l8 c9] h5 fun (v10 : Value) (h11 : Heap) =>
 v10 = Value.tuple #[] ∧
 (0 : Int) ≤ n4 ∧
 n4 < (↑l_l : Int) ∧
 deref l fun (a12 : Addr) =>
 ∃ (cs13 : Array Value),
 row h11 (Addr.add (Addr.add a12 (Int.toNat n4 * (68 : Nat))) (1 : Nat)) (67 : Nat) = some cs13 ∧
 CallsH Tryz.prog n_ref18_Out_version #[Value.pointer o, Value.agg cs13] h11 fun (v14 : Value) (h15 : Heap) =>
 v14 = Value.tuple #[] ∧ I2 (IntKind.wrap IntKind.i64 (n4 + (1 : Int))) h15 ∧ μ3 (IntKind.wrap IntKind.i64 (n4 + (1 : Int))) h15 < μ3 n4 h5)
 (R (Value.tuple #[]) h5)
theorem C_ref18_Out_news (o : Option Addr) (l : Option Addr) (l_l : Nat) (l_c : Nat) {h : Heap} {R : Value → Heap → Prop} (H : F_ref18_Out_news o l l_l l_c h R) : CallsH Tryz.prog n_ref18_Out_news [(.pointer o), (.slice l l_l l_c)].toArray h R :=
  fn_sound (A := A_ref18_Out_news) (Eq.mp (by kernel_rfl : F_ref18_Out_news o l l_l l_c h R = fnVc Go.Proofs.Tryz.prog A_ref18_Out_news 35 [(.pointer o), (.slice l l_l l_c)] h R) H)

/- rolodex/rolodexref17.Is -/
def A_ref17_Is : Ann := { qs := [4, 5, 6, 7, 8, 9, 10, 11, 13, 14, 16, 17, 18, 19, 20, 21, 22, 23, 24, 25, 27, 37, 38, 41, 42, 58, 59, 60, 61, 62, 81, 86, 93, 94, 98, 106, 108, 109, 110, 112] }
def F_ref17_Is (h_ : Array Value) (h : Heap) (R : Value → Heap → Prop) : Prop :=
 newBlk h (129 : Nat) h_ fun (b0 : Nat) (h1 : Heap) =>
 ∃ (n2 : Int),
 cell h1 (Addr.add (Addr.mk b0 (0 : Nat) none) (0 : Nat)) = some (Value.int IntKind.i64 n2) ∧
 br (decide (n2 ≥ (1 : Int)))
 (∃ (n3 : Int),
 cell h1 (Addr.add (Addr.mk b0 (0 : Nat) none) (0 : Nat)) = some (Value.int IntKind.i64 n3) ∧
 br (decide (n3 ≤ (2147483647 : Int)))
 (∃ (n4 : Int),
 cell h1 (Addr.add (Addr.mk b0 (0 : Nat) none) (1 : Nat)) = some (Value.int IntKind.i64 n4) ∧
 br (decide (n4 ≥ (1 : Int)))
 (∃ (n5 : Int), cell h1 (Addr.add (Addr.mk b0 (0 : Nat) none) (1 : Nat)) = some (Value.int IntKind.i64 n5) ∧ R (Value.bool (decide (n5 ≤ (2147483647 : Int)))) h1)
 (R (Value.bool false) h1))
 (R (Value.bool false) h1))
 (R (Value.bool false) h1)
theorem C_ref17_Is (h_ : Array Value) {h : Heap} {R : Value → Heap → Prop} (H : F_ref17_Is h_ h R) : CallsH Tryz.prog n_ref17_Is [(.agg h_)].toArray h R :=
  fn_sound (A := A_ref17_Is) (Eq.mp (by kernel_rfl : F_ref17_Is h_ h R = fnVc Go.Proofs.Tryz.prog A_ref17_Is 109 [(.agg h_)] h R) H)

/- rolodex/rolodexref17.Encode -/
def A_ref17_Encode : Ann := { qs := [4, 5, 6, 7, 8, 9, 10, 11, 13, 14, 16, 17, 18, 19, 20, 21, 22, 23, 24, 25, 27, 37, 38, 41, 42, 58, 59, 60, 61, 62, 81, 86, 93, 94, 98, 106, 108, 109, 110, 112] }
def F_ref17_Encode (h_ : Array Value) (h : Heap) (R : Value → Heap → Prop) : Prop :=
 newBlk h (129 : Nat) h_ fun (b0 : Nat) (h1 : Heap) =>
 ∃ (cs2 : Array Value),
 row h1 (Addr.mk b0 (0 : Nat) none) (66 : Nat) = some cs2 ∧
 CallsH Tryz.prog n_ref17_Is #[Value.agg cs2] h1 fun (v3 : Value) (h4 : Heap) =>
 Ext h1 h4 ∧
 ∃ (t5 : Bool),
 v3 = Value.bool t5 ∧
 br (!t5) (R (Value.tuple #[Value.slice none (0 : Nat) (0 : Nat), Value.int IntKind.i64 (1 : Int)]) h4)
 (∃ (n6 : Int),
 cell h4 (Addr.add (Addr.mk b0 (0 : Nat) none) (0 : Nat)) = some (Value.int IntKind.i64 n6) ∧
 CallsH Tryz.prog n_ref01_Number #[Value.int IntKind.u64 (IntKind.wrap IntKind.u64 n6), Value.int IntKind.i64 (4 : Int)] h4 fun (v7 : Value) (h8 : Heap) =>
 Ext h4 h8 ∧
 ∃ (p9 : Option Addr),
 ∃ (l10 : Nat),
 ∃ (c11 : Nat),
 v7 = Value.slice p9 l10 c11 ∧
 ∃ (n12 : Int),
 cell h8 (Addr.add (Addr.mk b0 (0 : Nat) none) (1 : Nat)) = some (Value.int IntKind.i64 n12) ∧
 CallsH Tryz.prog n_ref01_Number #[Value.int IntKind.u64 (IntKind.wrap IntKind.u64 n12), Value.int IntKind.i64 (4 : Int)] h8 fun (v13 : Value) (h14 : Heap) =>
 Ext h8 h14 ∧
 ∃ (p15 : Option Addr),
 ∃ (l16 : Nat),
 ∃ (c17 : Nat),
 v13 = Value.slice p15 l16 c17 ∧
 appendP (5 : Nat) (1 : Nat) (1 : Nat) #[Value.int IntKind.u8 (0 : Int)] p9 l10 c11 p15 l16 h14 fun (p18 : Option Addr) (l19 c20 : Nat) (h21 : Heap) =>
 sliceP (1 : Nat) (some (Addr.mk (Addr.block (Addr.mk b0 (0 : Nat) none)) (Addr.off (Addr.mk b0 (0 : Nat) none) + (2 : Nat)) none)) (0 : Int)
 (↑(32 : Nat) : Int) (↑(32 : Nat) : Int) (32 : Nat) fun (p22 : Option Addr) (l23 c24 : Nat) =>
 appendP (5 : Nat) (1 : Nat) (1 : Nat) #[Value.int IntKind.u8 (0 : Int)] p18 l19 c20 p22 l23 h21
 fun (p25 : Option Addr) (l26 c27 : Nat) (h28 : Heap) =>
 sliceP (1 : Nat) (some (Addr.mk (Addr.block (Addr.mk b0 (0 : Nat) none)) (Addr.off (Addr.mk b0 (0 : Nat) none) + (34 : Nat)) none)) (0 : Int)
 (↑(32 : Nat) : Int) (↑(32 : Nat) : Int) (32 : Nat) fun (p29 : Option Addr) (l30 c31 : Nat) =>
 appendP (5 : Nat) (1 : Nat) (1 : Nat) #[Value.int IntKind.u8 (0 : Int)] p25 l26 c27 p29 l30 h28
 fun (p32 : Option Addr) (l33 c34 : Nat) (h35 : Heap) => R (Value.tuple #[Value.slice p32 l33 c34, Value.int IntKind.i64 (0 : Int)]) h35)
theorem C_ref17_Encode (h_ : Array Value) {h : Heap} {R : Value → Heap → Prop} (H : F_ref17_Encode h_ h R) : CallsH Tryz.prog n_ref17_Encode [(.agg h_)].toArray h R :=
  fn_sound (A := A_ref17_Encode) (Eq.mp (by kernel_rfl : F_ref17_Encode h_ h R = fnVc Go.Proofs.Tryz.prog A_ref17_Encode 93 [(.agg h_)] h R) H)

/- rolodex/rolodexref17.Bytes -/
def A_ref17_Bytes : Ann := { qs := [4, 5, 6, 7, 8, 9, 10, 11, 13, 14, 16, 17, 18, 19, 20, 21, 22, 23, 24, 25, 27, 37, 38, 41, 42, 58, 59, 60, 61, 62, 81, 86, 93, 94, 98, 106, 108, 109, 110, 112] }
def F_ref17_Bytes (s : Array Value) (h : Heap) (R : Value → Heap → Prop) : Prop :=
 newBlk h (131 : Nat) s fun (b0 : Nat) (h1 : Heap) =>
 ∃ (cs2 : Array Value),
 row h1 (Addr.add (Addr.mk b0 (0 : Nat) none) (0 : Nat)) (66 : Nat) = some cs2 ∧
 CallsH Tryz.prog n_ref17_Encode #[Value.agg cs2] h1 fun (v3 : Value) (h4 : Heap) =>
 Ext h1 h4 ∧
 ∃ (p5 : Option Addr),
 ∃ (l6 : Nat),
 ∃ (c7 : Nat),
 ∃ (n8 : Int),
 v3 = Value.tuple #[Value.slice p5 l6 c7, Value.int IntKind.i64 n8] ∧
 br (n8 != (0 : Int)) (R (Value.tuple #[Value.slice none (0 : Nat) (0 : Nat), Value.bool false]) h4)
 (∃ (p9 : Option Addr),
 ∃ (l10 : Nat),
 ∃ (c11 : Nat),
 cell h4 (Addr.add (Addr.mk b0 (0 : Nat) none) (66 : Nat)) = some (Value.slice p9 l10 c11) ∧
 br (decide ((↑l10 : Int) > (8192 : Int))) (R (Value.tuple #[Value.slice none (0 : Nat) (0 : Nat), Value.bool false]) h4)
 (∃ (p12 : Option Addr),
 ∃ (l13 : Nat),
 ∃ (c14 : Nat),
 cell h4 (Addr.add (Addr.mk b0 (0 : Nat) none) (66 : Nat)) = some (Value.slice p12 l13 c14) ∧
 CallsH Tryz.prog n_ref01_Number #[Value.int IntKind.u64 (IntKind.wrap IntKind.u64 (↑l13 : Int)), Value.int IntKind.i64 (2 : Int)] h4
 fun (v15 : Value) (h16 : Heap) =>
 Ext h4 h16 ∧
 ∃ (p17 : Option Addr),
 ∃ (l18 : Nat),
 ∃ (c19 : Nat),
 v15 = Value.slice p17 l18 c19 ∧
 appendP (5 : Nat) (1 : Nat) (1 : Nat) #[Value.int IntKind.u8 (0 : Int)] p5 l6 c7 p17 l18 h16 fun (p20 : Option Addr) (l21 c22 : Nat) (h23 : Heap) =>
 ∃ (p24 : Option Addr),
 ∃ (l25 : Nat),
 ∃ (c26 : Nat),
 cell h23 (Addr.add (Addr.mk b0 (0 : Nat) none) (66 : Nat)) = some (Value.slice p24 l25 c26) ∧
 appendP (5 : Nat) (1 : Nat) (1 : Nat) #[Value.int IntKind.u8 (0 : Int)] p20 l21 c22 p24 l25 h23
 fun (p27 : Option Addr) (l28 c29 : Nat) (h30 : Heap) => R (Value.tuple #[Value.slice p27 l28 c29, Value.bool true]) h30))
theorem C_ref17_Bytes (s : Array Value) {h : Heap} {R : Value → Heap → Prop} (H : F_ref17_Bytes s h R) : CallsH Tryz.prog n_ref17_Bytes [(.agg s)].toArray h R :=
  fn_sound (A := A_ref17_Bytes) (Eq.mp (by kernel_rfl : F_ref17_Bytes s h R = fnVc Go.Proofs.Tryz.prog A_ref17_Bytes 62 [(.agg s)] h R) H)

/- (*rolodex/rolodexref18.Out).signed -/
def A_ref18_Out_signed : Ann := { qs := [4, 5, 6, 7, 8, 9, 10, 11, 13, 14, 16, 17, 18, 19, 20, 21, 22, 23, 24, 25, 27, 37, 38, 41, 42, 58, 59, 60, 61, 62, 81, 86, 93, 94, 98, 106, 108, 109, 110, 112] }
def F_ref18_Out_signed (o : Option Addr) (m : Array Value) (h : Heap) (R : Value → Heap → Prop) : Prop :=
 newBlk h (43 : Nat) m fun (b0 : Nat) (h1 : Heap) =>
 ∃ (cs2 : Array Value),
 row h1 (Addr.add (Addr.add (Addr.mk b0 (0 : Nat) none) (9 : Nat)) (0 : Nat)) (66 : Nat) = some cs2 ∧
 ∃ (p3 : Option Addr),
 ∃ (l4 : Nat),
 ∃ (c5 : Nat),
 cell h1 (Addr.add (Addr.add (Addr.mk b0 (0 : Nat) none) (9 : Nat)) (66 : Nat)) = some (Value.slice p3 l4 c5) ∧
 Array.size cs2 = (66 : Nat) ∧
 CallsH Tryz.prog n_ref17_Bytes #[Value.agg (List.toArray (Array.toList cs2 ++ [Value.slice p3 l4 c5]))] h1 fun (v6 : Value) (h7 : Heap) =>
 Ext h1 h7 ∧
 ∃ (p8 : Option Addr),
 ∃ (l9 : Nat),
 ∃ (c10 : Nat),
 ∃ (t11 : Bool),
 v6 = Value.tuple #[Value.slice p8 l9 c10, Value.bool t11] ∧
 deref o fun (a12 : Addr) =>
 ∃ (t13 : Bool),
 cell h7 (Addr.add a12 (1 : Nat)) = some (Value.bool t13) ∧
 br t13
 (deref o fun (a14 : Addr) =>
 storeP none h7 (Addr.mk (Addr.block a14) (Addr.off a14 + (1 : Nat)) none) (Value.bool t11) fun (h15 : Heap) =>
 deref o fun (a16 : Addr) =>
 ∃ (p17 : Option Addr),
 ∃ (l18 : Nat),
 ∃ (c19 : Nat),
 cell h15 (Addr.add a16 (0 : Nat)) = some (Value.slice p17 l18 c19) ∧
 appendP (5 : Nat) (1 : Nat) (1 : Nat) #[Value.int IntKind.u8 (0 : Int)] p17 l18 c19 p8 l9 h15
 fun (p20 : Option Addr) (l21 c22 : Nat) (h23 : Heap) =>
 deref o fun (a24 : Addr) => storeP none h23 a24 (Value.slice p20 l21 c22) fun (h25 : Heap) => R (Value.tuple #[]) h25)
 (deref o fun (a26 : Addr) =>
 storeP none h7 (Addr.mk (Addr.block a26) (Addr.off a26 + (1 : Nat)) none) (Value.bool false) fun (h27 : Heap) =>
 deref o fun (a28 : Addr) =>
 ∃ (p29 : Option Addr),
 ∃ (l30 : Nat),
 ∃ (c31 : Nat),
 cell h27 (Addr.add a28 (0 : Nat)) = some (Value.slice p29 l30 c31) ∧
 appendP (5 : Nat) (1 : Nat) (1 : Nat) #[Value.int IntKind.u8 (0 : Int)] p29 l30 c31 p8 l9 h27
 fun (p32 : Option Addr) (l33 c34 : Nat) (h35 : Heap) =>
 deref o fun (a36 : Addr) => storeP none h35 a36 (Value.slice p32 l33 c34) fun (h37 : Heap) => R (Value.tuple #[]) h37)
theorem C_ref18_Out_signed (o : Option Addr) (m : Array Value) {h : Heap} {R : Value → Heap → Prop} (H : F_ref18_Out_signed o m h R) : CallsH Tryz.prog n_ref18_Out_signed [(.pointer o), (.agg m)].toArray h R :=
  fn_sound (A := A_ref18_Out_signed) (Eq.mp (by kernel_rfl : F_ref18_Out_signed o m h R = fnVc Go.Proofs.Tryz.prog A_ref18_Out_signed 29 [(.pointer o), (.agg m)] h R) H)

/- rolodex/rolodexref18.Numbers -/
def A_ref18_Numbers : Ann := { qs := [4, 5, 6, 7, 8, 9, 10, 11, 13, 14, 16, 17, 18, 19, 20, 21, 22, 23, 24, 25, 27, 37, 38, 41, 42, 58, 59, 60, 61, 62, 81, 86, 93, 94, 98, 106, 108, 109, 110, 112] }
def F_ref18_Numbers (kind : Int) (h : Heap) (R : Value → Heap → Prop) : Prop :=
 newBlk h (85 : Nat) #[Value.bool false, Value.bool false, Value.bool false, Value.bool false, Value.bool false] fun (b0 : Nat) (h1 : Heap) =>
 br (kind == (1 : Int))
 (storeP (some (5 : Nat)) h1 (Addr.mk b0 (0 : Nat) none) (Value.agg #[Value.bool true, Value.bool true, Value.bool true, Value.bool false, Value.bool false]) fun (h2 : Heap) =>
 ∃ (cs3 : Array Value), row h2 (Addr.mk b0 (0 : Nat) none) (5 : Nat) = some cs3 ∧ R (Value.agg cs3) h2)
 (br (kind == (2 : Int))
 (storeP (some (5 : Nat)) h1 (Addr.mk b0 (0 : Nat) none) (Value.agg #[Value.bool true, Value.bool true, Value.bool true, Value.bool true, Value.bool false]) fun (h4 : Heap) =>
 ∃ (cs5 : Array Value), row h4 (Addr.mk b0 (0 : Nat) none) (5 : Nat) = some cs5 ∧ R (Value.agg cs5) h4)
 (br (kind == (3 : Int))
 (storeP (some (5 : Nat)) h1 (Addr.mk b0 (0 : Nat) none) (Value.agg #[Value.bool true, Value.bool true, Value.bool true, Value.bool true, Value.bool true]) fun (h6 : Heap) =>
 ∃ (cs7 : Array Value), row h6 (Addr.mk b0 (0 : Nat) none) (5 : Nat) = some cs7 ∧ R (Value.agg cs7) h6)
 (br (kind == (4 : Int))
 (storeP (some (5 : Nat)) h1 (Addr.mk b0 (0 : Nat) none) (Value.agg #[Value.bool true, Value.bool true, Value.bool true, Value.bool true, Value.bool true]) fun (h8 : Heap) =>
 ∃ (cs9 : Array Value), row h8 (Addr.mk b0 (0 : Nat) none) (5 : Nat) = some cs9 ∧ R (Value.agg cs9) h8)
 (br (kind == (6 : Int))
 (storeP (some (5 : Nat)) h1 (Addr.mk b0 (0 : Nat) none) (Value.agg #[Value.bool true, Value.bool true, Value.bool false, Value.bool true, Value.bool true]) fun (h10 : Heap) =>
 ∃ (cs11 : Array Value), row h10 (Addr.mk b0 (0 : Nat) none) (5 : Nat) = some cs11 ∧ R (Value.agg cs11) h10)
 (storeP (some (5 : Nat)) h1 (Addr.mk b0 (0 : Nat) none) (Value.agg #[Value.bool true, Value.bool true, Value.bool false, Value.bool false, Value.bool false]) fun (h12 : Heap) =>
 ∃ (cs13 : Array Value), row h12 (Addr.mk b0 (0 : Nat) none) (5 : Nat) = some cs13 ∧ R (Value.agg cs13) h12)))))
theorem C_ref18_Numbers (kind : Int) {h : Heap} {R : Value → Heap → Prop} (H : F_ref18_Numbers kind h R) : CallsH Tryz.prog n_ref18_Numbers [(.int .i64 kind)].toArray h R :=
  fn_sound (A := A_ref18_Numbers) (Eq.mp (by kernel_rfl : F_ref18_Numbers kind h R = fnVc Go.Proofs.Tryz.prog A_ref18_Numbers 27 [(.int .i64 kind)] h R) H)

/- rolodex/rolodexref18.Bytes -/
def A_ref18_Bytes : Ann := { qs := [4, 5, 6, 7, 8, 9, 10, 11, 13, 14, 16, 17, 18, 19, 20, 21, 22, 23, 24, 25, 27, 37, 38, 41, 42, 58, 59, 60, 61, 62, 81, 86, 93, 94, 98, 106, 108, 109, 110, 112], loops := [(6, [(7, (.int .i64))])], cuts := [(12, []), (14, []), (16, []), (23, []), (27, []), (31, [])] }
def F_ref18_Bytes (m : Array Value) (h : Heap) (R : Value → Heap → Prop) : Prop :=
 newBlk h (43 : Nat) m fun (b0 : Nat) (h1 : Heap) =>
 newBlk h1 (82 : Nat) #[Value.slice none (0 : Nat) (0 : Nat), Value.bool true] fun (b2 : Nat) (h3 : Heap) =>
 ∃ (n4 : Int),
 cell h3 (Addr.add (Addr.mk b0 (0 : Nat) none) (0 : Nat)) = some (Value.int IntKind.i64 n4) ∧
 CallsH Tryz.prog n_ref18_Out_number
 #[Value.pointer (some (Addr.mk b2 (0 : Nat) none)), Value.int IntKind.i64 n4, Value.int IntKind.i64 (1 : Int), Value.int IntKind.i64 (8 : Int), Value.int IntKind.i64 (1 : Int)] h3
 fun (v5 : Value) (h6 : Heap) =>
 v5 = Value.tuple #[] ∧
 ∃ (n7 : Int),
 cell h6 (Addr.add (Addr.mk b0 (0 : Nat) none) (1 : Nat)) = some (Value.int IntKind.i64 n7) ∧
 ∃ (n8 : Int),
 cell h6 (Addr.add (Addr.mk b0 (0 : Nat) none) (2 : Nat)) = some (Value.int IntKind.i64 n8) ∧
 ∃ (n9 : Int),
 cell h6 (Addr.add (Addr.mk b0 (0 : Nat) none) (3 : Nat)) = some (Value.int IntKind.i64 n9) ∧
 ∃ (n10 : Int),
 cell h6 (Addr.add (Addr.mk b0 (0 : Nat) none) (4 : Nat)) = some (Value.int IntKind.i64 n10) ∧
 ∃ (n11 : Int),
 cell h6 (Addr.add (Addr.mk b0 (0 : Nat) none) (5 : Nat)) = some (Value.int IntKind.i64 n11) ∧
 newBlk h6 (84 : Nat)
 #[Value.int IntKind.i64 (0 : Int), Value.int IntKind.i64 (0 : Int), Value.int IntKind.i64 (0 : Int), Value.int IntKind.i64 (0 : Int), Value.int IntKind.i64 (0 : Int)]
 fun (b12 : Nat) (h13 : Heap) =>
 storeP (some (5 : Nat)) h13 (Addr.mk b12 (0 : Nat) none)
 (Value.agg #[Value.int IntKind.i64 n7, Value.int IntKind.i64 n8, Value.int IntKind.i64 n9, Value.int IntKind.i64 n10, Value.int IntKind.i64 n11])
 fun (h14 : Heap) =>
 ∃ (n15 : Int),
 cell h14 (Addr.add (Addr.mk b0 (0 : Nat) none) (0 : Nat)) = some (Value.int IntKind.i64 n15) ∧
 CallsH Tryz.prog n_ref18_Numbers #[Value.int IntKind.i64 n15] h14 fun (v16 : Value) (h17 : Heap) =>
 Ext h14 h17 ∧
 ∃ (cs18 : Array Value),
 Array.size cs18 = (5 : Nat) ∧
 v16 = Value.agg cs18 ∧
 newBlk h17 (85 : Nat) #[Value.bool false, Value.bool false, Value.bool false, Value.bool false, Value.bool false] fun (b19 : Nat) (h20 : Heap) =>
 storeP (some (5 : Nat)) h20 (Addr.mk b19 (0 : Nat) none) (Value.agg cs18) fun (h21 : Heap) =>
 ∃ (I22 : Int → Heap → Prop),
 ∃ (μ23 : Int → Heap → Nat),
 I22 (0 : Int) h21 ∧
 ∀ (n24 : Int) (h25 : Heap),
 I22 n24 h25 →
 br (decide (n24 < (5 : Int)))
 ((0 : Int) ≤ n24 ∧
 n24 < (↑(5 : Nat) : Int) ∧
 ∃ (t26 : Bool),
 cell h25 (Addr.add (Addr.mk b19 (0 : Nat) none) (Int.toNat n24 * (1 : Nat))) = some (Value.bool t26) ∧
 br t26
 ((0 : Int) ≤ n24 ∧
 n24 < (↑(5 : Nat) : Int) ∧
 ∃ (n27 : Int),
 cell h25 (Addr.add (Addr.mk b12 (0 : Nat) none) (Int.toNat n24 * (1 : Nat))) = some (Value.int IntKind.i64 n27) ∧
 CallsH Tryz.prog n_ref18_Out_number
 #[Value.pointer (some (Addr.mk b2 (0 : Nat) none)), Value.int IntKind.i64 n27, Value.int IntKind.i64 (0 : Int),
 Value.int IntKind.i64 (2147483647 : Int), Value.int IntKind.i64 (4 : Int)]
 h25 fun (v28 : Value) (h29 : Heap) =>
 v28 = Value.tuple #[] ∧
 I22 (IntKind.wrap IntKind.i64 (n24 + (1 : Int))) h29 ∧
 μ23 (IntKind.wrap IntKind.i64 (n24 + (1 : Int))) h29 < μ23 n24 h25)
 (I22 (IntKind.wrap IntKind.i64 (n24 + (1 : Int))) h25 ∧ μ23 (IntKind.wrap IntKind.i64 (n24 + (1 : Int))) h25 < μ23 n24 h25))
 (∃ (J30 : PUnit → Heap → Prop),
 (∃ (n31 : Int),
 cell h25 (Addr.add (Addr.mk b0 (0 : Nat) none) (0 : Nat)) = some (Value.int IntKind.i64 n31) ∧
 br (n31 == (2 : Int))
 (∃ (n32 : Int),
 cell h25 (Addr.add (Addr.mk b0 (0 : Nat) none) (6 : Nat)) = some (Value.int IntKind.i64 n32) ∧
 CallsH Tryz.prog n_ref18_Out_number
 #[Value.pointer (some (Addr.mk b2 (0 : Nat) none)), Value.int IntKind.i64 n32, Value.int IntKind.i64 (0 : Int),
 Value.int IntKind.i64 (13 : Int), Value.int IntKind.i64 (1 : Int)]
 h25 fun (v33 : Value) (h34 : Heap) => v33 = Value.tuple #[] ∧ J30 () h34)
 (∃ (n35 : Int),
 cell h25 (Addr.add (Addr.mk b0 (0 : Nat) none) (0 : Nat)) = some (Value.int IntKind.i64 n35) ∧
 br (n35 == (4 : Int))
 (∃ (n36 : Int),
 cell h25 (Addr.add (Addr.mk b0 (0 : Nat) none) (6 : Nat)) = some (Value.int IntKind.i64 n36) ∧
 CallsH Tryz.prog n_ref18_Out_number
 #[Value.pointer (some (Addr.mk b2 (0 : Nat) none)), Value.int IntKind.i64 n36, Value.int IntKind.i64 (0 : Int),
 Value.int IntKind.i64 (13 : Int), Value.int IntKind.i64 (1 : Int)]
 h25 fun (v37 : Value) (h38 : Heap) => v37 = Value.tuple #[] ∧ J30 () h38)
 (J30 () h25))) ∧
 ∀ (x39 : PUnit) (h40 : Heap),
 J30 x39 h40 →
 ∃ (J41 : PUnit → Heap → Prop),
 (∃ (n42 : Int),
 cell h40 (Addr.add (Addr.mk b0 (0 : Nat) none) (0 : Nat)) = some (Value.int IntKind.i64 n42) ∧
 br (n42 == (1 : Int))
 (∃ (p43 : Option Addr),
 ∃ (l44 : Nat),
 ∃ (c45 : Nat),
 cell h40 (Addr.add (Addr.mk b0 (0 : Nat) none) (7 : Nat)) = some (Value.slice p43 l44 c45) ∧
 CallsH Tryz.prog n_ref18_Out_text #[Value.pointer (some (Addr.mk b2 (0 : Nat) none)), Value.slice p43 l44 c45] h40
 fun (v46 : Value) (h47 : Heap) => v46 = Value.tuple #[] ∧ J41 () h47)
 (∃ (n48 : Int),
 cell h40 (Addr.add (Addr.mk b0 (0 : Nat) none) (0 : Nat)) = some (Value.int IntKind.i64 n48) ∧
 br (n48 == (3 : Int))
 (∃ (p49 : Option Addr),
 ∃ (l50 : Nat),
 ∃ (c51 : Nat),
 cell h40 (Addr.add (Addr.mk b0 (0 : Nat) none) (7 : Nat)) = some (Value.slice p49 l50 c51) ∧
 CallsH Tryz.prog n_ref18_Out_text
 #[Value.pointer (some (Addr.mk b2 (0 : Nat) none)), Value.slice p49 l50 c51] h40
 fun (v52 : Value) (h53 : Heap) => v52 = Value.tuple #[] ∧ J41 () h53)
 (J41 () h40))) ∧
 ∀ (x54 : PUnit) (h55 : Heap),
 J41 x54 h55 →
 ∃ (J56 : PUnit → Heap → Prop),
 (∃ (n57 : Int),
 cell h55 (Addr.add (Addr.mk b0 (0 : Nat) none) (0 : Nat)) = some (Value.int IntKind.i64 n57) ∧
 br (n57 == (1 : Int))
 (∃ (p58 : Option Addr),
 ∃ (l59 : Nat),
 ∃ (c60 : Nat),
 cell h55 (Addr.add (Addr.mk b0 (0 : Nat) none) (8 : Nat)) = some (Value.slice p58 l59 c60) ∧
 CallsH Tryz.prog n_ref18_Out_text
 #[Value.pointer (some (Addr.mk b2 (0 : Nat) none)), Value.slice p58 l59 c60] h55
 fun (v61 : Value) (h62 : Heap) => v61 = Value.tuple #[] ∧ J56 () h62)
 (J56 () h55)) ∧
 ∀ (x63 : PUnit) (h64 : Heap),
 J56 x63 h64 →
 ∃ (J65 : PUnit → Heap → Prop),
 (∃ (n66 : Int),
 cell h64 (Addr.add (Addr.mk b0 (0 : Nat) none) (0 : Nat)) = some (Value.int IntKind.i64 n66) ∧
 br (n66 == (4 : Int))
 (∃ (n67 : Int),
 cell h64 (Addr.add (Addr.mk b0 (0 : Nat) none) (6 : Nat)) = some (Value.int IntKind.i64 n67) ∧
 br (n67 == (0 : Int))
 (∃ (cs68 : Array Value),
 row h64 (Addr.mk b0 (0 : Nat) none) (279 : Nat) = some cs68 ∧
 CallsH Tryz.prog n_ref18_Out_signed
 #[Value.pointer (some (Addr.mk b2 (0 : Nat) none)), Value.agg cs68] h64
 fun (v69 : Value) (h70 : Heap) =>
 v69 = Value.tuple #[] ∧
 ∃ (cs71 : Array Value),
 row h70 (Addr.add (Addr.mk b0 (0 : Nat) none) (76 : Nat)) (2 : Nat) = some cs71 ∧
 CallsH Tryz.prog n_ref18_Out_trail
 #[Value.pointer (some (Addr.mk b2 (0 : Nat) none)), Value.agg cs71] h70
 fun (v72 : Value) (h73 : Heap) =>
 v72 = Value.tuple #[] ∧
 ∃ (cs74 : Array Value),
 row h73 (Addr.add (Addr.mk b0 (0 : Nat) none) (78 : Nat)) (2 : Nat) =
 some cs74 ∧
 CallsH Tryz.prog n_ref18_Out_trail
 #[Value.pointer (some (Addr.mk b2 (0 : Nat) none)), Value.agg cs74] h73
 fun (v75 : Value) (h76 : Heap) =>
 v75 = Value.tuple #[] ∧
 ∃ (cs77 : Array Value),
 row h76 (Addr.add (Addr.mk b0 (0 : Nat) none) (80 : Nat))
 (32 : Nat) =
 some cs77 ∧
 CallsH Tryz.prog n_ref18_Out_hash
 #[Value.pointer (some (Addr.mk b2 (0 : Nat) none)),
 Value.agg cs77]
 h76 fun (v78 : Value) (h79 : Heap) =>
 v78 = Value.tuple #[] ∧
 ∃ (cs80 : Array Value),
 row h79 (Addr.add (Addr.mk b0 (0 : Nat) none) (112 : Nat))
 (163 : Nat) =
 some cs80 ∧
 CallsH Tryz.prog n_ref18_Out_proof
 #[Value.pointer (some (Addr.mk b2 (0 : Nat) none)),
 Value.agg cs80]
 h79 fun (v81 : Value) (h82 : Heap) =>
 v81 = Value.tuple #[] ∧
 ∃ (p83 : Option Addr),
 ∃ (l84 : Nat),
 ∃ (c85 : Nat),
 cell h82
 (Addr.add (Addr.mk b0 (0 : Nat) none)
 (275 : Nat)) =
 some (Value.slice p83 l84 c85) ∧
 CallsH Tryz.prog n_ref18_Out_chain
 #[Value.pointer
 (some (Addr.mk b2 (0 : Nat) none)),
 Value.slice p83 l84 c85]
 h82 fun (v86 : Value) (h87 : Heap) =>
 v86 = Value.tuple #[] ∧ J65 () h87)
 (J65 () h64))
 (J65 () h64)) ∧
 ∀ (x88 : PUnit) (h89 : Heap),
 J65 x88 h89 →
 ∃ (J90 : PUnit → Heap → Prop),
 (∃ (n91 : Int),
 cell h89 (Addr.add (Addr.mk b0 (0 : Nat) none) (0 : Nat)) = some (Value.int IntKind.i64 n91) ∧
 br (n91 == (5 : Int))
 (∃ (cs92 : Array Value),
 row h89 (Addr.mk b0 (0 : Nat) none) (279 : Nat) = some cs92 ∧
 CallsH Tryz.prog n_ref18_Out_signed
 #[Value.pointer (some (Addr.mk b2 (0 : Nat) none)), Value.agg cs92] h89
 fun (v93 : Value) (h94 : Heap) =>
 v93 = Value.tuple #[] ∧
 ∃ (p95 : Option Addr),
 ∃ (l96 : Nat),
 ∃ (c97 : Nat),
 cell h94 (Addr.add (Addr.mk b0 (0 : Nat) none) (276 : Nat)) =
 some (Value.slice p95 l96 c97) ∧
 CallsH Tryz.prog n_ref18_Out_rows
 #[Value.pointer (some (Addr.mk b2 (0 : Nat) none)),
 Value.slice p95 l96 c97]
 h94 fun (v98 : Value) (h99 : Heap) =>
 v98 = Value.tuple #[] ∧
 ∃ (p100 : Option Addr),
 ∃ (l101 : Nat),
 ∃ (c102 : Nat),
 cell h99 (Addr.add (Addr.mk b0 (0 : Nat) none) (277 : Nat)) =
 some (Value.slice p100 l101 c102) ∧
 CallsH Tryz.prog n_ref18_Out_news
 #[Value.pointer (some (Addr.mk b2 (0 : Nat) none)),
 Value.slice p100 l101 c102]
 h99 fun (v103 : Value) (h104 : Heap) =>
 v103 = Value.tuple #[] ∧ J90 () h104)
 (J90 () h89)) ∧
 ∀ (x105 : PUnit) (h106 : Heap),
 J90 x105 h106 →
 ∃ (J107 : PUnit → Heap → Prop),
 (∃ (n108 : Int),
 cell h106 (Addr.add (Addr.mk b0 (0 : Nat) none) (0 : Nat)) =
 some (Value.int IntKind.i64 n108) ∧
 br (n108 == (8 : Int))
 (∃ (cs109 : Array Value),
 row h106 (Addr.mk b0 (0 : Nat) none) (279 : Nat) = some cs109 ∧
 CallsH Tryz.prog n_ref18_Out_signed
 #[Value.pointer (some (Addr.mk b2 (0 : Nat) none)), Value.agg cs109] h106
 fun (v110 : Value) (h111 : Heap) =>
 v110 = Value.tuple #[] ∧
 ∃ (p112 : Option Addr),
 ∃ (l113 : Nat),
 ∃ (c114 : Nat),
 cell h111 (Addr.add (Addr.mk b0 (0 : Nat) none) (277 : Nat)) =
 some (Value.slice p112 l113 c114) ∧
 CallsH Tryz.prog n_ref18_Out_news
 #[Value.pointer (some (Addr.mk b2 (0 : Nat) none)),
 Value.slice p112 l113 c114]
 h111 fun (v115 : Value) (h116 : Heap) =>
 v115 = Value.tuple #[] ∧
 ∃ (p117 : Option Addr),
 ∃ (l118 : Nat),
 ∃ (c119 : Nat),
 cell h116
 (Addr.add (Addr.mk b0 (0 : Nat) none) (278 : Nat)) =
 some (Value.slice p117 l118 c119) ∧
 CallsH Tryz.prog n_ref18_Out_hashes
 #[Value.pointer (some (Addr.mk b2 (0 : Nat) none)),
 Value.slice p117 l118 c119]
 h116 fun (v120 : Value) (h121 : Heap) =>
 v120 = Value.tuple #[] ∧ J107 () h121)
 (J107 () h106)) ∧
 ∀ (x122 : PUnit) (h123 : Heap),
 J107 x122 h123 →
 ∃ (t124 : Bool),
 cell h123 (Addr.add (Addr.mk b2 (0 : Nat) none) (1 : Nat)) =
 some (Value.bool t124) ∧
 br (!t124)
 (R (Value.tuple #[Value.slice none (0 : Nat) (0 : Nat), Value.bool false]) h123)
 (∃ (p125 : Option Addr),
 ∃ (l126 : Nat),
 ∃ (c127 : Nat),
 cell h123 (Addr.add (Addr.mk b2 (0 : Nat) none) (0 : Nat)) =
 some (Value.slice p125 l126 c127) ∧
 R (Value.tuple #[Value.slice p125 l126 c127, Value.bool true]) h123))
theorem C_ref18_Bytes (m : Array Value) {h : Heap} {R : Value → Heap → Prop} (H : F_ref18_Bytes m h R) : CallsH Tryz.prog n_ref18_Bytes [(.agg m)].toArray h R :=
  fn_sound (A := A_ref18_Bytes) (Eq.mp (by kernel_rfl : F_ref18_Bytes m h R = fnVc Go.Proofs.Tryz.prog A_ref18_Bytes 7 [(.agg m)] h R) H)

/- rolodex/rolodexref18.Bare -/
def A_ref18_Bare : Ann := { qs := [4, 5, 6, 7, 8, 9, 10, 11, 13, 14, 16, 17, 18, 19, 20, 21, 22, 23, 24, 25, 27, 37, 38, 41, 42, 58, 59, 60, 61, 62, 81, 86, 93, 94, 98, 106, 108, 109, 110, 112], cuts := [(5, []), (7, []), (9, []), (11, []), (13, []), (15, []), (22, []), (25, []), (27, []), (29, [])] }
def F_ref18_Bare (m : Array Value) (h : Heap) (R : Value → Heap → Prop) : Prop :=
 newBlk h (43 : Nat) m fun (b0 : Nat) (h1 : Heap) =>
 newBlk h1 (43 : Nat)
 (List.toArray
 (Value.int IntKind.i64 (0 : Int) ::
 Value.int IntKind.i64 (0 : Int) ::
 Value.int IntKind.i64 (0 : Int) ::
 Value.int IntKind.i64 (0 : Int) ::
 Value.int IntKind.i64 (0 : Int) ::
 Value.int IntKind.i64 (0 : Int) ::
 Value.int IntKind.i64 (0 : Int) ::
 Value.slice none (0 : Nat) (0 : Nat) ::
 Value.slice none (0 : Nat) (0 : Nat) ::
 Value.int IntKind.i64 (0 : Int) ::
 Value.int IntKind.i64 (0 : Int) ::
 (List.replicate (64 : Nat) (Value.int IntKind.u8 (0 : Int)) ++
 Value.slice none (0 : Nat) (0 : Nat) ::
 Value.slice none (0 : Nat) (0 : Nat) ::
 Value.slice none (0 : Nat) (0 : Nat) ::
 Value.slice none (0 : Nat) (0 : Nat) ::
 Value.slice none (0 : Nat) (0 : Nat) ::
 (List.replicate (32 : Nat) (Value.int IntKind.u8 (0 : Int)) ++
 Value.slice none (0 : Nat) (0 : Nat) ::
 Value.int IntKind.i64 (0 : Int) ::
 (List.replicate (64 : Nat) (Value.int IntKind.u8 (0 : Int)) ++
 Value.int IntKind.i64 (0 : Int) ::
 (List.replicate (96 : Nat) (Value.int IntKind.u8 (0 : Int)) ++
 [Value.slice none (0 : Nat) (0 : Nat), Value.slice none (0 : Nat) (0 : Nat), Value.slice none (0 : Nat) (0 : Nat),
 Value.slice none (0 : Nat) (0 : Nat)]))))))
 fun (b2 : Nat) (h3 : Heap) =>
 ∃ (n4 : Int),
 cell h3 (Addr.add (Addr.mk b0 (0 : Nat) none) (0 : Nat)) = some (Value.int IntKind.i64 n4) ∧
 ∃ (n5 : Int),
 cell h3 (Addr.add (Addr.mk b0 (0 : Nat) none) (1 : Nat)) = some (Value.int IntKind.i64 n5) ∧
 ∃ (n6 : Int),
 cell h3 (Addr.add (Addr.mk b0 (0 : Nat) none) (2 : Nat)) = some (Value.int IntKind.i64 n6) ∧
 newBlk h3 (43 : Nat)
 (List.toArray
 (Value.int IntKind.i64 (0 : Int) ::
 Value.int IntKind.i64 (0 : Int) ::
 Value.int IntKind.i64 (0 : Int) ::
 Value.int IntKind.i64 (0 : Int) ::
 Value.int IntKind.i64 (0 : Int) ::
 Value.int IntKind.i64 (0 : Int) ::
 Value.int IntKind.i64 (0 : Int) ::
 Value.slice none (0 : Nat) (0 : Nat) ::
 Value.slice none (0 : Nat) (0 : Nat) ::
 Value.int IntKind.i64 (0 : Int) ::
 Value.int IntKind.i64 (0 : Int) ::
 (List.replicate (64 : Nat) (Value.int IntKind.u8 (0 : Int)) ++
 Value.slice none (0 : Nat) (0 : Nat) ::
 Value.slice none (0 : Nat) (0 : Nat) ::
 Value.slice none (0 : Nat) (0 : Nat) ::
 Value.slice none (0 : Nat) (0 : Nat) ::
 Value.slice none (0 : Nat) (0 : Nat) ::
 (List.replicate (32 : Nat) (Value.int IntKind.u8 (0 : Int)) ++
 Value.slice none (0 : Nat) (0 : Nat) ::
 Value.int IntKind.i64 (0 : Int) ::
 (List.replicate (64 : Nat) (Value.int IntKind.u8 (0 : Int)) ++
 Value.int IntKind.i64 (0 : Int) ::
 (List.replicate (96 : Nat) (Value.int IntKind.u8 (0 : Int)) ++
 [Value.slice none (0 : Nat) (0 : Nat), Value.slice none (0 : Nat) (0 : Nat), Value.slice none (0 : Nat) (0 : Nat),
 Value.slice none (0 : Nat) (0 : Nat)]))))))
 fun (b7 : Nat) (h8 : Heap) =>
 storeP (some (279 : Nat)) h8 (Addr.mk b7 (0 : Nat) none)
 (Value.agg
 (List.toArray
 (Value.int IntKind.i64 n4 ::
 Value.int IntKind.i64 n5 ::
 Value.int IntKind.i64 n6 ::
 Value.int IntKind.i64 (0 : Int) ::
 Value.int IntKind.i64 (0 : Int) ::
 Value.int IntKind.i64 (0 : Int) ::
 Value.int IntKind.i64 (0 : Int) ::
 Value.slice none (0 : Nat) (0 : Nat) ::
 Value.slice none (0 : Nat) (0 : Nat) ::
 Value.int IntKind.i64 (0 : Int) ::
 Value.int IntKind.i64 (0 : Int) ::
 (List.replicate (64 : Nat) (Value.int IntKind.u8 (0 : Int)) ++
 Value.slice none (0 : Nat) (0 : Nat) ::
 Value.slice none (0 : Nat) (0 : Nat) ::
 Value.slice none (0 : Nat) (0 : Nat) ::
 Value.slice none (0 : Nat) (0 : Nat) ::
 Value.slice none (0 : Nat) (0 : Nat) ::
 (List.replicate (32 : Nat) (Value.int IntKind.u8 (0 : Int)) ++
 Value.slice none (0 : Nat) (0 : Nat) ::
 Value.int IntKind.i64 (0 : Int) ::
 (List.replicate (64 : Nat) (Value.int IntKind.u8 (0 : Int)) ++
 Value.int IntKind.i64 (0 : Int) ::
 (List.replicate (96 : Nat) (Value.int IntKind.u8 (0 : Int)) ++
 [Value.slice none (0 : Nat) (0 : Nat), Value.slice none (0 : Nat) (0 : Nat), Value.slice none (0 : Nat) (0 : Nat),
 Value.slice none (0 : Nat) (0 : Nat)])))))))
 fun (h9 : Heap) =>
 ∃ (n10 : Int),
 cell h9 (Addr.add (Addr.mk b0 (0 : Nat) none) (0 : Nat)) = some (Value.int IntKind.i64 n10) ∧
 CallsH Tryz.prog n_ref18_Numbers #[Value.int IntKind.i64 n10] h9 fun (v11 : Value) (h12 : Heap) =>
 Ext h9 h12 ∧
 ∃ (cs13 : Array Value),
 Array.size cs13 = (5 : Nat) ∧
 v11 = Value.agg cs13 ∧
 newBlk h12 (85 : Nat) #[Value.bool false, Value.bool false, Value.bool false, Value.bool false, Value.bool false] fun (b14 : Nat) (h15 : Heap) =>
 storeP (some (5 : Nat)) h15 (Addr.mk b14 (0 : Nat) none) (Value.agg cs13) fun (h16 : Heap) =>
 ∃ (J17 : PUnit → Heap → Prop),
 ((0 : Int) ≤ (2 : Int) ∧
 (2 : Int) < (↑(5 : Nat) : Int) ∧
 ∃ (t18 : Bool),
 cell h16 (Addr.add (Addr.mk b14 (0 : Nat) none) (2 : Nat)) = some (Value.bool t18) ∧
 br t18
 (∃ (n19 : Int),
 cell h16 (Addr.add (Addr.mk b0 (0 : Nat) none) (3 : Nat)) = some (Value.int IntKind.i64 n19) ∧
 storeP none h16 (Addr.mk (Addr.block (Addr.mk b7 (0 : Nat) none)) (Addr.off (Addr.mk b7 (0 : Nat) none) + (3 : Nat)) none)
 (Value.int IntKind.i64 n19) fun (h20 : Heap) => J17 () h20)
 (J17 () h16)) ∧
 ∀ (x21 : PUnit) (h22 : Heap),
 J17 x21 h22 →
 ∃ (J23 : PUnit → Heap → Prop),
 ((0 : Int) ≤ (3 : Int) ∧
 (3 : Int) < (↑(5 : Nat) : Int) ∧
 ∃ (t24 : Bool),
 cell h22 (Addr.add (Addr.mk b14 (0 : Nat) none) (3 : Nat)) = some (Value.bool t24) ∧
 br t24
 (∃ (n25 : Int),
 cell h22 (Addr.add (Addr.mk b0 (0 : Nat) none) (4 : Nat)) = some (Value.int IntKind.i64 n25) ∧
 storeP none h22 (Addr.mk (Addr.block (Addr.mk b7 (0 : Nat) none)) (Addr.off (Addr.mk b7 (0 : Nat) none) + (4 : Nat)) none)
 (Value.int IntKind.i64 n25) fun (h26 : Heap) => J23 () h26)
 (J23 () h22)) ∧
 ∀ (x27 : PUnit) (h28 : Heap),
 J23 x27 h28 →
 ∃ (J29 : PUnit → Heap → Prop),
 ((0 : Int) ≤ (4 : Int) ∧
 (4 : Int) < (↑(5 : Nat) : Int) ∧
 ∃ (t30 : Bool),
 cell h28 (Addr.add (Addr.mk b14 (0 : Nat) none) (4 : Nat)) = some (Value.bool t30) ∧
 br t30
 (∃ (n31 : Int),
 cell h28 (Addr.add (Addr.mk b0 (0 : Nat) none) (5 : Nat)) = some (Value.int IntKind.i64 n31) ∧
 storeP none h28 (Addr.mk (Addr.block (Addr.mk b7 (0 : Nat) none)) (Addr.off (Addr.mk b7 (0 : Nat) none) + (5 : Nat)) none)
 (Value.int IntKind.i64 n31) fun (h32 : Heap) => J29 () h32)
 (J29 () h28)) ∧
 ∀ (x33 : PUnit) (h34 : Heap),
 J29 x33 h34 →
 ∃ (J35 : PUnit → Heap → Prop),
 (∃ (n36 : Int),
 cell h34 (Addr.add (Addr.mk b0 (0 : Nat) none) (0 : Nat)) = some (Value.int IntKind.i64 n36) ∧
 br (n36 == (2 : Int))
 (∃ (n37 : Int),
 cell h34 (Addr.add (Addr.mk b0 (0 : Nat) none) (6 : Nat)) = some (Value.int IntKind.i64 n37) ∧
 storeP none h34 (Addr.mk (Addr.block (Addr.mk b7 (0 : Nat) none)) (Addr.off (Addr.mk b7 (0 : Nat) none) + (6 : Nat)) none)
 (Value.int IntKind.i64 n37) fun (h38 : Heap) => J35 () h38)
 (∃ (n39 : Int),
 cell h34 (Addr.add (Addr.mk b0 (0 : Nat) none) (0 : Nat)) = some (Value.int IntKind.i64 n39) ∧
 br (n39 == (4 : Int))
 (∃ (n40 : Int),
 cell h34 (Addr.add (Addr.mk b0 (0 : Nat) none) (6 : Nat)) = some (Value.int IntKind.i64 n40) ∧
 storeP none h34
 (Addr.mk (Addr.block (Addr.mk b7 (0 : Nat) none)) (Addr.off (Addr.mk b7 (0 : Nat) none) + (6 : Nat)) none)
 (Value.int IntKind.i64 n40) fun (h41 : Heap) => J35 () h41)
 (J35 () h34))) ∧
 ∀ (x42 : PUnit) (h43 : Heap),
 J35 x42 h43 →
 ∃ (J44 : PUnit → Heap → Prop),
 (∃ (n45 : Int),
 cell h43 (Addr.add (Addr.mk b0 (0 : Nat) none) (0 : Nat)) = some (Value.int IntKind.i64 n45) ∧
 br (n45 == (1 : Int))
 (∃ (p46 : Option Addr),
 ∃ (l47 : Nat),
 ∃ (c48 : Nat),
 cell h43 (Addr.add (Addr.mk b0 (0 : Nat) none) (7 : Nat)) = some (Value.slice p46 l47 c48) ∧
 storeP none h43
 (Addr.mk (Addr.block (Addr.mk b7 (0 : Nat) none)) (Addr.off (Addr.mk b7 (0 : Nat) none) + (7 : Nat)) none)
 (Value.slice p46 l47 c48) fun (h49 : Heap) => J44 () h49)
 (∃ (n50 : Int),
 cell h43 (Addr.add (Addr.mk b0 (0 : Nat) none) (0 : Nat)) = some (Value.int IntKind.i64 n50) ∧
 br (n50 == (3 : Int))
 (∃ (p51 : Option Addr),
 ∃ (l52 : Nat),
 ∃ (c53 : Nat),
 cell h43 (Addr.add (Addr.mk b0 (0 : Nat) none) (7 : Nat)) = some (Value.slice p51 l52 c53) ∧
 storeP none h43
 (Addr.mk (Addr.block (Addr.mk b7 (0 : Nat) none)) (Addr.off (Addr.mk b7 (0 : Nat) none) + (7 : Nat))
 none)
 (Value.slice p51 l52 c53) fun (h54 : Heap) => J44 () h54)
 (J44 () h43))) ∧
 ∀ (x55 : PUnit) (h56 : Heap),
 J44 x55 h56 →
 ∃ (J57 : PUnit → Heap → Prop),
 (∃ (n58 : Int),
 cell h56 (Addr.add (Addr.mk b0 (0 : Nat) none) (0 : Nat)) = some (Value.int IntKind.i64 n58) ∧
 br (n58 == (1 : Int))
 (∃ (p59 : Option Addr),
 ∃ (l60 : Nat),
 ∃ (c61 : Nat),
 cell h56 (Addr.add (Addr.mk b0 (0 : Nat) none) (8 : Nat)) = some (Value.slice p59 l60 c61) ∧
 storeP none h56
 (Addr.mk (Addr.block (Addr.mk b7 (0 : Nat) none)) (Addr.off (Addr.mk b7 (0 : Nat) none) + (8 : Nat))
 none)
 (Value.slice p59 l60 c61) fun (h62 : Heap) => J57 () h62)
 (J57 () h56)) ∧
 ∀ (x63 : PUnit) (h64 : Heap),
 J57 x63 h64 →
 ∃ (J65 : PUnit → Heap → Prop),
 (∃ (n66 : Int),
 cell h64 (Addr.add (Addr.mk b0 (0 : Nat) none) (0 : Nat)) = some (Value.int IntKind.i64 n66) ∧
 br (n66 == (4 : Int))
 (∃ (n67 : Int),
 cell h64 (Addr.add (Addr.mk b0 (0 : Nat) none) (6 : Nat)) = some (Value.int IntKind.i64 n67) ∧
 br (n67 == (0 : Int))
 (∃ (cs68 : Array Value),
 row h64 (Addr.add (Addr.mk b0 (0 : Nat) none) (9 : Nat)) (67 : Nat) = some cs68 ∧
 storeP (some (67 : Nat)) h64
 (Addr.mk (Addr.block (Addr.mk b7 (0 : Nat) none))
 (Addr.off (Addr.mk b7 (0 : Nat) none) + (9 : Nat)) none)
 (Value.agg cs68) fun (h69 : Heap) =>
 ∃ (cs70 : Array Value),
 row h69 (Addr.add (Addr.mk b0 (0 : Nat) none) (76 : Nat)) (2 : Nat) = some cs70 ∧
 storeP (some (2 : Nat)) h69
 (Addr.mk (Addr.block (Addr.mk b7 (0 : Nat) none))
 (Addr.off (Addr.mk b7 (0 : Nat) none) + (76 : Nat)) none)
 (Value.agg cs70) fun (h71 : Heap) =>
 ∃ (cs72 : Array Value),
 row h71 (Addr.add (Addr.mk b0 (0 : Nat) none) (78 : Nat)) (2 : Nat) = some cs72 ∧
 storeP (some (2 : Nat)) h71
 (Addr.mk (Addr.block (Addr.mk b7 (0 : Nat) none))
 (Addr.off (Addr.mk b7 (0 : Nat) none) + (78 : Nat)) none)
 (Value.agg cs72) fun (h73 : Heap) =>
 ∃ (cs74 : Array Value),
 row h73 (Addr.add (Addr.mk b0 (0 : Nat) none) (80 : Nat)) (32 : Nat) =
 some cs74 ∧
 storeP (some (32 : Nat)) h73
 (Addr.mk (Addr.block (Addr.mk b7 (0 : Nat) none))
 (Addr.off (Addr.mk b7 (0 : Nat) none) + (80 : Nat)) none)
 (Value.agg cs74) fun (h75 : Heap) =>
 ∃ (cs76 : Array Value),
 row h75 (Addr.add (Addr.mk b0 (0 : Nat) none) (112 : Nat)) (163 : Nat) =
 some cs76 ∧
 CallsH Tryz.prog n_ref18_Ended #[Value.agg cs76] h75
 fun (v77 : Value) (h78 : Heap) =>
 Ext h75 h78 ∧
 ∃ (cs79 : Array Value),
 Array.size cs79 = (163 : Nat) ∧
 v77 = Value.agg cs79 ∧
 storeP (some (163 : Nat)) h78
 (Addr.mk (Addr.block (Addr.mk b7 (0 : Nat) none))
 (Addr.off (Addr.mk b7 (0 : Nat) none) + (112 : Nat))
 none)
 (Value.agg cs79) fun (h80 : Heap) =>
 ∃ (p81 : Option Addr),
 ∃ (l82 : Nat),
 ∃ (c83 : Nat),
 cell h80
 (Addr.add (Addr.mk b0 (0 : Nat) none)
 (275 : Nat)) =
 some (Value.slice p81 l82 c83) ∧
 storeP none h80
 (Addr.mk
 (Addr.block (Addr.mk b7 (0 : Nat) none))
 (Addr.off (Addr.mk b7 (0 : Nat) none) +
 (275 : Nat))
 none)
 (Value.slice p81 l82 c83) fun (h84 : Heap) =>
 J65 () h84)
 (J65 () h64))
 (J65 () h64)) ∧
 ∀ (x85 : PUnit) (h86 : Heap),
 J65 x85 h86 →
 ∃ (J87 : PUnit → Heap → Prop),
 (∃ (n88 : Int),
 cell h86 (Addr.add (Addr.mk b0 (0 : Nat) none) (0 : Nat)) = some (Value.int IntKind.i64 n88) ∧
 br (n88 == (5 : Int))
 (∃ (cs89 : Array Value),
 row h86 (Addr.add (Addr.mk b0 (0 : Nat) none) (9 : Nat)) (67 : Nat) = some cs89 ∧
 storeP (some (67 : Nat)) h86
 (Addr.mk (Addr.block (Addr.mk b7 (0 : Nat) none))
 (Addr.off (Addr.mk b7 (0 : Nat) none) + (9 : Nat)) none)
 (Value.agg cs89) fun (h90 : Heap) =>
 ∃ (p91 : Option Addr),
 ∃ (l92 : Nat),
 ∃ (c93 : Nat),
 cell h90 (Addr.add (Addr.mk b0 (0 : Nat) none) (277 : Nat)) =
 some (Value.slice p91 l92 c93) ∧
 storeP none h90
 (Addr.mk (Addr.block (Addr.mk b7 (0 : Nat) none))
 (Addr.off (Addr.mk b7 (0 : Nat) none) + (277 : Nat)) none)
 (Value.slice p91 l92 c93) fun (h94 : Heap) => J87 () h94)
 (∃ (n95 : Int),
 cell h86 (Addr.add (Addr.mk b0 (0 : Nat) none) (0 : Nat)) = some (Value.int IntKind.i64 n95) ∧
 br (n95 == (8 : Int))
 (∃ (cs96 : Array Value),
 row h86 (Addr.add (Addr.mk b0 (0 : Nat) none) (9 : Nat)) (67 : Nat) = some cs96 ∧
 storeP (some (67 : Nat)) h86
 (Addr.mk (Addr.block (Addr.mk b7 (0 : Nat) none))
 (Addr.off (Addr.mk b7 (0 : Nat) none) + (9 : Nat)) none)
 (Value.agg cs96) fun (h97 : Heap) =>
 ∃ (p98 : Option Addr),
 ∃ (l99 : Nat),
 ∃ (c100 : Nat),
 cell h97 (Addr.add (Addr.mk b0 (0 : Nat) none) (277 : Nat)) =
 some (Value.slice p98 l99 c100) ∧
 storeP none h97
 (Addr.mk (Addr.block (Addr.mk b7 (0 : Nat) none))
 (Addr.off (Addr.mk b7 (0 : Nat) none) + (277 : Nat)) none)
 (Value.slice p98 l99 c100) fun (h101 : Heap) => J87 () h101)
 (J87 () h86))) ∧
 ∀ (x102 : PUnit) (h103 : Heap),
 J87 x102 h103 →
 ∃ (J104 : PUnit → Heap → Prop),
 (∃ (n105 : Int),
 cell h103 (Addr.add (Addr.mk b0 (0 : Nat) none) (0 : Nat)) =
 some (Value.int IntKind.i64 n105) ∧
 br (n105 == (5 : Int))
 (∃ (p106 : Option Addr),
 ∃ (l107 : Nat),
 ∃ (c108 : Nat),
 cell h103 (Addr.add (Addr.mk b0 (0 : Nat) none) (276 : Nat)) =
 some (Value.slice p106 l107 c108) ∧
 CallsH Tryz.prog n_ref18_Rows #[Value.slice p106 l107 c108] h103
 fun (v109 : Value) (h110 : Heap) =>
 Ext h103 h110 ∧
 ∃ (p111 : Option Addr),
 ∃ (l112 : Nat),
 ∃ (c113 : Nat),
 v109 = Value.slice p111 l112 c113 ∧
 storeP none h110
 (Addr.mk (Addr.block (Addr.mk b7 (0 : Nat) none))
 (Addr.off (Addr.mk b7 (0 : Nat) none) + (276 : Nat)) none)
 (Value.slice p111 l112 c113) fun (h114 : Heap) => J104 () h114)
 (J104 () h103)) ∧
 ∀ (x115 : PUnit) (h116 : Heap),
 J104 x115 h116 →
 ∃ (J117 : PUnit → Heap → Prop),
 (∃ (n118 : Int),
 cell h116 (Addr.add (Addr.mk b0 (0 : Nat) none) (0 : Nat)) =
 some (Value.int IntKind.i64 n118) ∧
 br (n118 == (8 : Int))
 (∃ (p119 : Option Addr),
 ∃ (l120 : Nat),
 ∃ (c121 : Nat),
 cell h116 (Addr.add (Addr.mk b0 (0 : Nat) none) (278 : Nat)) =
 some (Value.slice p119 l120 c121) ∧
 storeP none h116
 (Addr.mk (Addr.block (Addr.mk b7 (0 : Nat) none))
 (Addr.off (Addr.mk b7 (0 : Nat) none) + (278 : Nat)) none)
 (Value.slice p119 l120 c121) fun (h122 : Heap) => J117 () h122)
 (J117 () h116)) ∧
 ∀ (x123 : PUnit) (h124 : Heap),
 J117 x123 h124 →
 ∃ (cs125 : Array Value),
 row h124 (Addr.mk b7 (0 : Nat) none) (279 : Nat) = some cs125 ∧
 storeP (some (279 : Nat)) h124 (Addr.mk b2 (0 : Nat) none) (Value.agg cs125)
 fun (h126 : Heap) =>
 ∃ (cs127 : Array Value),
 row h126 (Addr.mk b2 (0 : Nat) none) (279 : Nat) = some cs127 ∧
 R (Value.agg cs127) h126
theorem C_ref18_Bare (m : Array Value) {h : Heap} {R : Value → Heap → Prop} (H : F_ref18_Bare m h R) : CallsH Tryz.prog n_ref18_Bare [(.agg m)].toArray h R :=
  fn_sound (A := A_ref18_Bare) (Eq.mp (by kernel_rfl : F_ref18_Bare m h R = fnVc Go.Proofs.Tryz.prog A_ref18_Bare 9 [(.agg m)] h R) H)

/- rolodex/rolodexref18.Ended -/
def A_ref18_Ended : Ann := { qs := [4, 5, 6, 7, 8, 9, 10, 11, 13, 14, 16, 17, 18, 19, 20, 21, 22, 23, 24, 25, 27, 37, 38, 41, 42, 58, 59, 60, 61, 62, 81, 86, 93, 94, 98, 106, 108, 109, 110, 112] }
def F_ref18_Ended (p : Array Value) (h : Heap) (R : Value → Heap → Prop) : Prop :=
 newBlk h (38 : Nat) p fun (b0 : Nat) (h1 : Heap) =>
 newBlk h1 (38 : Nat)
 (List.toArray
 (Value.slice none (0 : Nat) (0 : Nat) ::
 Value.int IntKind.i64 (0 : Int) ::
 (List.replicate (64 : Nat) (Value.int IntKind.u8 (0 : Int)) ++ Value.int IntKind.i64 (0 : Int) :: List.replicate (96 : Nat) (Value.int IntKind.u8 (0 : Int)))))
 fun (b2 : Nat) (h3 : Heap) =>
 ∃ (p4 : Option Addr),
 ∃ (l5 : Nat),
 ∃ (c6 : Nat),
 cell h3 (Addr.add (Addr.mk b0 (0 : Nat) none) (0 : Nat)) = some (Value.slice p4 l5 c6) ∧
 ∃ (n7 : Int),
 cell h3 (Addr.add (Addr.mk b0 (0 : Nat) none) (1 : Nat)) = some (Value.int IntKind.i64 n7) ∧
 newBlk h3 (38 : Nat)
 (List.toArray
 (Value.slice none (0 : Nat) (0 : Nat) ::
 Value.int IntKind.i64 (0 : Int) ::
 (List.replicate (64 : Nat) (Value.int IntKind.u8 (0 : Int)) ++ Value.int IntKind.i64 (0 : Int) :: List.replicate (96 : Nat) (Value.int IntKind.u8 (0 : Int)))))
 fun (b8 : Nat) (h9 : Heap) =>
 storeP (some (163 : Nat)) h9 (Addr.mk b8 (0 : Nat) none)
 (Value.agg
 (List.toArray
 (Value.slice p4 l5 c6 ::
 Value.int IntKind.i64 n7 ::
 (List.replicate (64 : Nat) (Value.int IntKind.u8 (0 : Int)) ++ Value.int IntKind.i64 (0 : Int) :: List.replicate (96 : Nat) (Value.int IntKind.u8 (0 : Int))))))
 fun (h10 : Heap) =>
 ∃ (n11 : Int),
 cell h10 (Addr.add (Addr.mk b0 (0 : Nat) none) (1 : Nat)) = some (Value.int IntKind.i64 n11) ∧
 br (n11 == (1 : Int))
 (∃ (cs12 : Array Value),
 row h10 (Addr.add (Addr.mk b0 (0 : Nat) none) (2 : Nat)) (32 : Nat) = some cs12 ∧
 storeP (some (32 : Nat)) h10 (Addr.mk (Addr.block (Addr.mk b8 (0 : Nat) none)) (Addr.off (Addr.mk b8 (0 : Nat) none) + (2 : Nat)) none) (Value.agg cs12)
 fun (h13 : Heap) =>
 ∃ (cs14 : Array Value),
 row h13 (Addr.add (Addr.mk b0 (0 : Nat) none) (34 : Nat)) (32 : Nat) = some cs14 ∧
 storeP (some (32 : Nat)) h13 (Addr.mk (Addr.block (Addr.mk b8 (0 : Nat) none)) (Addr.off (Addr.mk b8 (0 : Nat) none) + (34 : Nat)) none) (Value.agg cs14)
 fun (h15 : Heap) =>
 ∃ (n16 : Int),
 cell h15 (Addr.add (Addr.mk b0 (0 : Nat) none) (1 : Nat)) = some (Value.int IntKind.i64 n16) ∧
 br (n16 == (2 : Int))
 (∃ (cs17 : Array Value),
 row h15 (Addr.add (Addr.mk b0 (0 : Nat) none) (66 : Nat)) (33 : Nat) = some cs17 ∧
 storeP (some (33 : Nat)) h15 (Addr.mk (Addr.block (Addr.mk b8 (0 : Nat) none)) (Addr.off (Addr.mk b8 (0 : Nat) none) + (66 : Nat)) none)
 (Value.agg cs17) fun (h18 : Heap) =>
 ∃ (cs19 : Array Value),
 row h18 (Addr.add (Addr.mk b0 (0 : Nat) none) (99 : Nat)) (32 : Nat) = some cs19 ∧
 storeP (some (32 : Nat)) h18 (Addr.mk (Addr.block (Addr.mk b8 (0 : Nat) none)) (Addr.off (Addr.mk b8 (0 : Nat) none) + (99 : Nat)) none)
 (Value.agg cs19) fun (h20 : Heap) =>
 ∃ (cs21 : Array Value),
 row h20 (Addr.add (Addr.mk b0 (0 : Nat) none) (131 : Nat)) (32 : Nat) = some cs21 ∧
 storeP (some (32 : Nat)) h20 (Addr.mk (Addr.block (Addr.mk b8 (0 : Nat) none)) (Addr.off (Addr.mk b8 (0 : Nat) none) + (131 : Nat)) none)
 (Value.agg cs21) fun (h22 : Heap) =>
 ∃ (cs23 : Array Value),
 row h22 (Addr.mk b8 (0 : Nat) none) (163 : Nat) = some cs23 ∧
 storeP (some (163 : Nat)) h22 (Addr.mk b2 (0 : Nat) none) (Value.agg cs23) fun (h24 : Heap) =>
 ∃ (cs25 : Array Value), row h24 (Addr.mk b2 (0 : Nat) none) (163 : Nat) = some cs25 ∧ R (Value.agg cs25) h24)
 (∃ (cs26 : Array Value),
 row h15 (Addr.mk b8 (0 : Nat) none) (163 : Nat) = some cs26 ∧
 storeP (some (163 : Nat)) h15 (Addr.mk b2 (0 : Nat) none) (Value.agg cs26) fun (h27 : Heap) =>
 ∃ (cs28 : Array Value), row h27 (Addr.mk b2 (0 : Nat) none) (163 : Nat) = some cs28 ∧ R (Value.agg cs28) h27))
 (∃ (n29 : Int),
 cell h10 (Addr.add (Addr.mk b0 (0 : Nat) none) (1 : Nat)) = some (Value.int IntKind.i64 n29) ∧
 br (n29 == (2 : Int))
 (∃ (cs30 : Array Value),
 row h10 (Addr.add (Addr.mk b0 (0 : Nat) none) (66 : Nat)) (33 : Nat) = some cs30 ∧
 storeP (some (33 : Nat)) h10 (Addr.mk (Addr.block (Addr.mk b8 (0 : Nat) none)) (Addr.off (Addr.mk b8 (0 : Nat) none) + (66 : Nat)) none) (Value.agg cs30)
 fun (h31 : Heap) =>
 ∃ (cs32 : Array Value),
 row h31 (Addr.add (Addr.mk b0 (0 : Nat) none) (99 : Nat)) (32 : Nat) = some cs32 ∧
 storeP (some (32 : Nat)) h31 (Addr.mk (Addr.block (Addr.mk b8 (0 : Nat) none)) (Addr.off (Addr.mk b8 (0 : Nat) none) + (99 : Nat)) none) (Value.agg cs32)
 fun (h33 : Heap) =>
 ∃ (cs34 : Array Value),
 row h33 (Addr.add (Addr.mk b0 (0 : Nat) none) (131 : Nat)) (32 : Nat) = some cs34 ∧
 storeP (some (32 : Nat)) h33 (Addr.mk (Addr.block (Addr.mk b8 (0 : Nat) none)) (Addr.off (Addr.mk b8 (0 : Nat) none) + (131 : Nat)) none)
 (Value.agg cs34) fun (h35 : Heap) =>
 ∃ (cs36 : Array Value),
 row h35 (Addr.mk b8 (0 : Nat) none) (163 : Nat) = some cs36 ∧
 storeP (some (163 : Nat)) h35 (Addr.mk b2 (0 : Nat) none) (Value.agg cs36) fun (h37 : Heap) =>
 ∃ (cs38 : Array Value), row h37 (Addr.mk b2 (0 : Nat) none) (163 : Nat) = some cs38 ∧ R (Value.agg cs38) h37)
 (∃ (cs39 : Array Value),
 row h10 (Addr.mk b8 (0 : Nat) none) (163 : Nat) = some cs39 ∧
 storeP (some (163 : Nat)) h10 (Addr.mk b2 (0 : Nat) none) (Value.agg cs39) fun (h40 : Heap) =>
 ∃ (cs41 : Array Value), row h40 (Addr.mk b2 (0 : Nat) none) (163 : Nat) = some cs41 ∧ R (Value.agg cs41) h40))
theorem C_ref18_Ended (p : Array Value) {h : Heap} {R : Value → Heap → Prop} (H : F_ref18_Ended p h R) : CallsH Tryz.prog n_ref18_Ended [(.agg p)].toArray h R :=
  fn_sound (A := A_ref18_Ended) (Eq.mp (by kernel_rfl : F_ref18_Ended p h R = fnVc Go.Proofs.Tryz.prog A_ref18_Ended 37 [(.agg p)] h R) H)

/- rolodex/rolodexref18.Rows -/
def A_ref18_Rows : Ann := { qs := [4, 5, 6, 7, 8, 9, 10, 11, 13, 14, 16, 17, 18, 19, 20, 21, 22, 23, 24, 25, 27, 37, 38, 41, 42, 58, 59, 60, 61, 62, 81, 86, 93, 94, 98, 106, 108, 109, 110, 112], loops := [(3, [(3, .slice), (4, (.int .i64))])], plans := [(5, (.take 0 (.take 1 (.take 2 (.take 3 (.take 4 (.take 5 (.take 6 (.take 7 (.take 8 (.take 9 (.take 10 (.take 11 (.take 12 (.take 13 (.take 14 (.take 15 (.alt 16 (.alt 17 .done .stop) .stop)))))))))))))))))), (7, (.take 0 (.take 1 (.take 2 (.take 3 (.take 4 (.take 5 (.take 6 (.take 7 (.take 8 (.take 9 (.take 10 (.alt 11 .done .stop)))))))))))))] }
def F_ref18_Rows (l : Option Addr) (l_l : Nat) (l_c : Nat) (h : Heap) (R : Value → Heap → Prop) : Prop :=
 ∃ (I0 : (Option Addr × Nat × Nat) × Int → Heap → Prop),
 ∃ (μ1 : (Option Addr × Nat × Nat) × Int → Heap → Nat),
 I0 ((none, (0 : Nat), (0 : Nat)), (0 : Int)) h ∧
 ∀ (s2 : (Option Addr × Nat × Nat) × Int) (h3 : Heap),
 I0 s2 h3 →
 br (decide (Prod.snd s2 < (↑l_l : Int)))
 ((0 : Int) ≤ Prod.snd s2 ∧
 Prod.snd s2 < (↑l_l : Int) ∧
 deref l fun (a4 : Addr) =>
 ∃ (cs5 : Array Value),
 row h3 (Addr.add (Addr.add a4 (Int.toNat (Prod.snd s2) * (162 : Nat))) (65 : Nat)) (33 : Nat) = some cs5 ∧
 (0 : Int) ≤ Prod.snd s2 ∧
 Prod.snd s2 < (↑l_l : Int) ∧
 deref l fun (a6 : Addr) =>
 ∃ (cs7 : Array Value),
 row h3 (Addr.add (Addr.add a6 (Int.toNat (Prod.snd s2) * (162 : Nat))) (98 : Nat)) (32 : Nat) = some cs7 ∧
 (0 : Int) ≤ Prod.snd s2 ∧
 Prod.snd s2 < (↑l_l : Int) ∧
 deref l fun (a8 : Addr) =>
 ∃ (cs9 : Array Value),
 row h3 (Addr.add (Addr.add a8 (Int.toNat (Prod.snd s2) * (162 : Nat))) (130 : Nat)) (32 : Nat) = some cs9 ∧
 Array.size cs5 = (33 : Nat) ∧
 Array.size cs7 = (32 : Nat) ∧
 Array.size cs9 = (32 : Nat) ∧
 newBlk h3 (74 : Nat)
 (List.toArray
 (Value.bool false ::
 (List.replicate (64 : Nat) (Value.int IntKind.u8 (0 : Int)) ++
 Value.int IntKind.i64 (0 : Int) :: List.replicate (96 : Nat) (Value.int IntKind.u8 (0 : Int)))))
 fun (b10 : Nat) (h11 : Heap) =>
 storeP (some (162 : Nat)) h11 (Addr.mk b10 (0 : Nat) none)
 (Value.agg
 (List.toArray
 (Value.bool false ::
 (List.replicate (64 : Nat) (Value.int IntKind.u8 (0 : Int)) ++ (Array.toList cs5 ++ (Array.toList cs7 ++ (Array.toList cs9 ++ [])))))))
 fun (h12 : Heap) =>
 (0 : Int) ≤ Prod.snd s2 ∧
 Prod.snd s2 < (↑l_l : Int) ∧
 deref l fun (a13 : Addr) =>
 ∃ (t14 : Bool),
 cell h12 (Addr.add (Addr.add a13 (Int.toNat (Prod.snd s2) * (162 : Nat))) (0 : Nat)) = some (Value.bool t14) ∧
 br t14
 ((0 : Int) ≤ Prod.snd s2 ∧
 Prod.snd s2 < (↑l_l : Int) ∧
 deref l fun (a15 : Addr) =>
 ∃ (cs16 : Array Value),
 row h12 (Addr.add (Addr.add a15 (Int.toNat (Prod.snd s2) * (162 : Nat))) (1 : Nat)) (32 : Nat) = some cs16 ∧
 (0 : Int) ≤ Prod.snd s2 ∧
 Prod.snd s2 < (↑l_l : Int) ∧
 deref l fun (a17 : Addr) =>
 ∃ (cs18 : Array Value),
 row h12 (Addr.add (Addr.add a17 (Int.toNat (Prod.snd s2) * (162 : Nat))) (33 : Nat)) (32 : Nat) = some cs18 ∧
 Array.size cs16 = (32 : Nat) ∧
 Array.size cs18 = (32 : Nat) ∧
 storeP (some (162 : Nat)) h12 (Addr.mk b10 (0 : Nat) none)
 (Value.agg
 (List.toArray
 (Value.bool true ::
 (Array.toList cs16 ++
 (Array.toList cs18 ++
 Value.int IntKind.i64 (0 : Int) :: List.replicate (96 : Nat) (Value.int IntKind.u8 (0 : Int)))))))
 fun (h19 : Heap) =>
 ∃ (cs20 : Array Value),
 row h19 (Addr.mk b10 (0 : Nat) none) (162 : Nat) = some cs20 ∧
 Array.size cs20 = (162 : Nat) ∧
 newBlk h19 (74 : Nat) (List.toArray (Array.toList cs20 ++ [])) fun (b21 : Nat) (h22 : Heap) =>
 appendP (74 : Nat) (162 : Nat) (176 : Nat)
 (List.toArray
 (Value.bool false ::
 (List.replicate (64 : Nat) (Value.int IntKind.u8 (0 : Int)) ++
 Value.int IntKind.i64 (0 : Int) ::
 List.replicate (96 : Nat) (Value.int IntKind.u8 (0 : Int)))))
 (Prod.fst (Prod.fst s2)) (Prod.fst (Prod.snd (Prod.fst s2))) (Prod.snd (Prod.snd (Prod.fst s2)))
 (some (Addr.mk b21 (0 : Nat) none)) (1 : Nat) h22
 fun (p23 : Option Addr) (l24 c25 : Nat) (h26 : Heap) =>
 I0 ((p23, l24, c25), IntKind.wrap IntKind.i64 (Prod.snd s2 + (1 : Int))) h26 ∧
 μ1 ((p23, l24, c25), IntKind.wrap IntKind.i64 (Prod.snd s2 + (1 : Int))) h26 < μ1 s2 h3)
 (∃ (cs27 : Array Value),
 row h12 (Addr.mk b10 (0 : Nat) none) (162 : Nat) = some cs27 ∧
 Array.size cs27 = (162 : Nat) ∧
 newBlk h12 (74 : Nat) (List.toArray (Array.toList cs27 ++ [])) fun (b28 : Nat) (h29 : Heap) =>
 appendP (74 : Nat) (162 : Nat) (176 : Nat)
 (List.toArray
 (Value.bool false ::
 (List.replicate (64 : Nat) (Value.int IntKind.u8 (0 : Int)) ++
 Value.int IntKind.i64 (0 : Int) :: List.replicate (96 : Nat) (Value.int IntKind.u8 (0 : Int)))))
 (Prod.fst (Prod.fst s2)) (Prod.fst (Prod.snd (Prod.fst s2))) (Prod.snd (Prod.snd (Prod.fst s2)))
 (some (Addr.mk b28 (0 : Nat) none)) (1 : Nat) h29 fun (p30 : Option Addr) (l31 c32 : Nat) (h33 : Heap) =>
 I0 ((p30, l31, c32), IntKind.wrap IntKind.i64 (Prod.snd s2 + (1 : Int))) h33 ∧
 μ1 ((p30, l31, c32), IntKind.wrap IntKind.i64 (Prod.snd s2 + (1 : Int))) h33 < μ1 s2 h3))
 (R (Value.slice (Prod.fst (Prod.fst s2)) (Prod.fst (Prod.snd (Prod.fst s2))) (Prod.snd (Prod.snd (Prod.fst s2)))) h3)
theorem C_ref18_Rows (l : Option Addr) (l_l : Nat) (l_c : Nat) {h : Heap} {R : Value → Heap → Prop} (H : F_ref18_Rows l l_l l_c h R) : CallsH Tryz.prog n_ref18_Rows [(.slice l l_l l_c)].toArray h R :=
  fn_sound (A := A_ref18_Rows) (Eq.mp (by kernel_rfl : F_ref18_Rows l l_l l_c h R = fnVc Go.Proofs.Tryz.prog A_ref18_Rows 38 [(.slice l l_l l_c)] h R) H)

/- rolodex/rolodexlaw18.awake -/
def A_law18_awake : Ann := { qs := [4, 5, 6, 7, 8, 9, 10, 11, 13, 14, 16, 17, 18, 19, 20, 21, 22, 23, 24, 25, 27, 37, 38, 41, 42, 58, 59, 60, 61, 62, 81, 86, 93, 94, 98, 106, 108, 109, 110, 112] }
def F_law18_awake (h : Heap) (R : Value → Heap → Prop) : Prop :=
 CallsH Tryz.prog n_message_Encode
 #[Value.agg
 (List.toArray
 (Value.int IntKind.i64 (7 : Int) ::
 Value.int IntKind.i64 (1 : Int) ::
 Value.int IntKind.i64 (2 : Int) ::
 Value.int IntKind.i64 (0 : Int) ::
 Value.int IntKind.i64 (0 : Int) ::
 Value.int IntKind.i64 (0 : Int) ::
 Value.int IntKind.i64 (0 : Int) ::
 Value.slice none (0 : Nat) (0 : Nat) ::
 Value.slice none (0 : Nat) (0 : Nat) ::
 Value.int IntKind.i64 (0 : Int) ::
 Value.int IntKind.i64 (0 : Int) ::
 (List.replicate (64 : Nat) (Value.int IntKind.u8 (0 : Int)) ++
 Value.slice none (0 : Nat) (0 : Nat) ::
 Value.slice none (0 : Nat) (0 : Nat) ::
 Value.slice none (0 : Nat) (0 : Nat) ::
 Value.slice none (0 : Nat) (0 : Nat) ::
 Value.slice none (0 : Nat) (0 : Nat) ::
 (List.replicate (32 : Nat) (Value.int IntKind.u8 (0 : Int)) ++
 Value.slice none (0 : Nat) (0 : Nat) ::
 Value.int IntKind.i64 (0 : Int) ::
 (List.replicate (64 : Nat) (Value.int IntKind.u8 (0 : Int)) ++
 Value.int IntKind.i64 (0 : Int) ::
 (List.replicate (96 : Nat) (Value.int IntKind.u8 (0 : Int)) ++
 [Value.slice none (0 : Nat) (0 : Nat), Value.slice none (0 : Nat) (0 : Nat), Value.slice none (0 : Nat) (0 : Nat),
 Value.slice none (0 : Nat) (0 : Nat)]))))))]
 h fun (v0 : Value) (h1 : Heap) =>
 Ext h h1 ∧
 ∃ (p2 : Option Addr),
 ∃ (l3 : Nat),
 ∃ (c4 : Nat),
 ∃ (n5 : Int),
 v0 = Value.tuple #[Value.slice p2 l3 c4, Value.int IntKind.i64 n5] ∧
 br (n5 == (0 : Int))
 (br ((↑l3 : Int) == (9 : Int))
 ((0 : Int) ≤ (0 : Int) ∧
 (0 : Int) < (↑l3 : Int) ∧
 deref p2 fun (a6 : Addr) =>
 ∃ (n7 : Int),
 cell h1 (Addr.add a6 (0 : Nat)) = some (Value.int IntKind.u8 n7) ∧
 br (n7 == (7 : Int))
 ((0 : Int) ≤ (4 : Int) ∧
 (4 : Int) < (↑l3 : Int) ∧
 deref p2 fun (a8 : Addr) => ∃ (n9 : Int), cell h1 (Addr.add a8 (4 : Nat)) = some (Value.int IntKind.u8 n9) ∧ R (Value.bool (n9 == (1 : Int))) h1)
 (R (Value.bool false) h1))
 (R (Value.bool false) h1))
 (R (Value.bool false) h1)
theorem C_law18_awake {h : Heap} {R : Value → Heap → Prop} (H : F_law18_awake h R) : CallsH Tryz.prog n_law18_awake [].toArray h R :=
  fn_sound (A := A_law18_awake) (Eq.mp (by kernel_rfl : F_law18_awake h R = fnVc Go.Proofs.Tryz.prog A_law18_awake 4 [] h R) H)

end Go.Proofs.YthlmiijlhiiccaaGreat
