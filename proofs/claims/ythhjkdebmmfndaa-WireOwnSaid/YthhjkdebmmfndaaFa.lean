/- The formulas of some functions, and that each is what its code comes to. Written by a program of ours. -/
import Derived.Test.YthhjkdebmmfndaaVcO
import Derived.Test.YthhjkdebmmfndaaProg
import Derived.KernelRfl
set_option linter.unusedVariables false
set_option maxRecDepth 100000
namespace Go.Proofs.Ythhjkdebmmfndaa
open Go Go.Vc Go.Proofs

/- rolodex/rolodexlaw01.awake -/
def A29 : Ann := { qs := [34, 35, 36, 38, 59, 63, 106, 118, 160, 102, 31, 32, 29, 60, 61, 62] }
def F29 (h : Heap) (R : Value → Heap → Prop) : Prop :=
  newBlk h (26 : Nat) #[Value.slice none (0 : Nat) (0 : Nat), Value.bool false] fun (b0 : Nat) (h1 : Heap) =>
  CallsH Try.prog (40 : Nat) #[Value.pointer (some (Addr.mk b0 (0 : Nat) none)), Value.int IntKind.i64 (258 : Int)] h1 fun (v2 : Value) (h3 : Heap) =>
    v2 = Value.tuple #[] ∧
      CallsH Try.prog (101 : Nat) #[Value.pointer (some (Addr.mk b0 (0 : Nat) none)), Value.bool true] h3 fun (v4 : Value) (h5 : Heap) =>
        v4 = Value.tuple #[] ∧
          CallsH Try.prog (31 : Nat) #[Value.pointer (some (Addr.mk b0 (0 : Nat) none))] h5 fun (v6 : Value) (h7 : Heap) =>
            Ext h5 h7 ∧
              ∃ (p8 : Option Addr),
                ∃ (l9 : Nat),
                  ∃ (c10 : Nat),
                    ∃ (n11 : Int),
                      v6 = Value.tuple #[Value.slice p8 l9 c10, Value.int IntKind.i64 n11] ∧
                        br (n11 == (0 : Int))
                          (br ((↑l9 : Int) == (3 : Int))
                            ((0 : Int) ≤ (1 : Int) ∧
                              (1 : Int) < (↑l9 : Int) ∧
                                deref p8 fun (a12 : Addr) => ∃ (n13 : Int), cell h7 (Addr.add a12 (1 : Nat)) = some (Value.int IntKind.u8 n13) ∧ R (Value.bool (n13 == (2 : Int))) h7)
                            (R (Value.bool false) h7))
                          (R (Value.bool false) h7)
theorem C29 {h : Heap} {R : Value → Heap → Prop} (H : F29 h R) : CallsH Go.Proofs.Try.prog 29 [].toArray h R :=
  fn_sound (A := A29) (Eq.mp (by kernel_rfl : F29 h R = fnVc Go.Proofs.Try.prog A29 29 [] h R) H)

/- (*rolodex/wire.Writer).Plain -/
def A30 : Ann := { qs := [34, 35, 36, 38, 59, 63, 106, 118, 160, 102, 31, 32, 29, 60, 61, 62] }
def F30 (w : Option Addr) (b : Option Addr) (b_l : Nat) (b_c : Nat) (h : Heap) (R : Value → Heap → Prop) : Prop :=
  br (!Option.isNone w)
  (deref w fun (a0 : Addr) =>
    ∃ (t1 : Bool),
      cell h (Addr.add a0 (1 : Nat)) = some (Value.bool t1) ∧
        br (!t1)
          (deref w fun (a2 : Addr) =>
            ∃ (p3 : Option Addr),
              ∃ (l4 : Nat),
                ∃ (c5 : Nat),
                  cell h (Addr.add a2 (0 : Nat)) = some (Value.slice p3 l4 c5) ∧
                    appendP (5 : Nat) (1 : Nat) (1 : Nat) #[Value.int IntKind.u8 (0 : Int)] p3 l4 c5 b b_l h fun (p6 : Option Addr) (l7 c8 : Nat) (h9 : Heap) =>
                      deref w fun (a10 : Addr) => storeP none h9 a10 (Value.slice p6 l7 c8) fun (h11 : Heap) => R (Value.tuple #[]) h11)
          (R (Value.tuple #[]) h))
  (R (Value.tuple #[]) h)
theorem C30 (w : Option Addr) (b : Option Addr) (b_l : Nat) (b_c : Nat) {h : Heap} {R : Value → Heap → Prop} (H : F30 w b b_l b_c h R) : CallsH Go.Proofs.Try.prog 30 [(.pointer w), (.slice b b_l b_c)].toArray h R :=
  fn_sound (A := A30) (Eq.mp (by kernel_rfl : F30 w b b_l b_c h R = fnVc Go.Proofs.Try.prog A30 30 [(.pointer w), (.slice b b_l b_c)] h R) H)

/- (*rolodex/wire.Writer).Out -/
def A31 : Ann := { qs := [34, 35, 36, 38, 59, 63, 106, 118, 160, 102, 31, 32, 29, 60, 61, 62] }
def F31 (w : Option Addr) (h : Heap) (R : Value → Heap → Prop) : Prop :=
  br (Option.isNone w) (R (Value.tuple #[Value.slice none (0 : Nat) (0 : Nat), Value.int IntKind.i64 (1 : Int)]) h)
  (deref w fun (a0 : Addr) =>
    ∃ (t1 : Bool),
      cell h (Addr.add a0 (1 : Nat)) = some (Value.bool t1) ∧
        br t1 (R (Value.tuple #[Value.slice none (0 : Nat) (0 : Nat), Value.int IntKind.i64 (4 : Int)]) h)
          (deref w fun (a2 : Addr) =>
            ∃ (p3 : Option Addr),
              ∃ (l4 : Nat),
                ∃ (c5 : Nat),
                  cell h (Addr.add a2 (0 : Nat)) = some (Value.slice p3 l4 c5) ∧
                    CallsH Try.prog (102 : Nat) #[Value.slice p3 l4 c5] h fun (v6 : Value) (h7 : Heap) =>
                      Ext h h7 ∧ ∃ (p8 : Option Addr), ∃ (l9 : Nat), ∃ (c10 : Nat), v6 = Value.slice p8 l9 c10 ∧ R (Value.tuple #[Value.slice p8 l9 c10, Value.int IntKind.i64 (0 : Int)]) h7))
theorem C31 (w : Option Addr) {h : Heap} {R : Value → Heap → Prop} (H : F31 w h R) : CallsH Go.Proofs.Try.prog 31 [(.pointer w)].toArray h R :=
  fn_sound (A := A31) (Eq.mp (by kernel_rfl : F31 w h R = fnVc Go.Proofs.Try.prog A31 31 [(.pointer w)] h R) H)

/- rolodex/wire.New -/
def A32 : Ann := { qs := [34, 35, 36, 38, 59, 63, 106, 118, 160, 102, 31, 32, 29, 60, 61, 62] }
def F32 (b : Option Addr) (b_l : Nat) (b_c : Nat) (h : Heap) (R : Value → Heap → Prop) : Prop :=
  CallsH Try.prog (102 : Nat) #[Value.slice b b_l b_c] h fun (v0 : Value) (h1 : Heap) =>
  Ext h h1 ∧
    ∃ (p2 : Option Addr),
      ∃ (l3 : Nat),
        ∃ (c4 : Nat), v0 = Value.slice p2 l3 c4 ∧ newBlk h1 (154 : Nat) #[Value.slice p2 l3 c4, Value.bool false] fun (b5 : Nat) (h6 : Heap) => R (Value.pointer (some (Addr.mk b5 (0 : Nat) none))) h6
theorem C32 (b : Option Addr) (b_l : Nat) (b_c : Nat) {h : Heap} {R : Value → Heap → Prop} (H : F32 b b_l b_c h R) : CallsH Go.Proofs.Try.prog 32 [(.slice b b_l b_c)].toArray h R :=
  fn_sound (A := A32) (Eq.mp (by kernel_rfl : F32 b b_l b_c h R = fnVc Go.Proofs.Try.prog A32 32 [(.slice b b_l b_c)] h R) H)

/- (*rolodex/wire.Reader).Plain -/
def A33 : Ann := { qs := [34, 35, 36, 38, 59, 63, 106, 118, 160, 102, 31, 32, 29, 60, 61, 62] }
def F33 (r : Option Addr) (n : Int) (h : Heap) (R : Value → Heap → Prop) : Prop :=
  CallsH Try.prog (103 : Nat) #[Value.pointer r, Value.int IntKind.i64 n] h fun (v0 : Value) (h1 : Heap) =>
  ∃ (p2 : Option Addr), ∃ (l3 : Nat), ∃ (c4 : Nat), v0 = Value.slice p2 l3 c4 ∧ R (Value.slice p2 l3 c4) h1
theorem C33 (r : Option Addr) (n : Int) {h : Heap} {R : Value → Heap → Prop} (H : F33 r n h R) : CallsH Go.Proofs.Try.prog 33 [(.pointer r), (.int .i64 n)].toArray h R :=
  fn_sound (A := A33) (Eq.mp (by kernel_rfl : F33 r n h R = fnVc Go.Proofs.Try.prog A33 33 [(.pointer r), (.int .i64 n)] h R) H)

/- rolodex/rolodexref01.Same -/
def A34 : Ann := { qs := [34, 35, 36, 38, 59, 63, 106, 118, 160, 102, 31, 32, 29, 60, 61, 62], loops := [(4, [(5, (.int .i64))])], plans := [(6, (.take 0 (.take 1 (.take 2 (.take 3 (.take 4 (.take 5 (.take 6 (.take 7 (.take 8 .done))))))))))] }
def F34 (a : Option Addr) (a_l : Nat) (a_c : Nat) (b : Option Addr) (b_l : Nat) (b_c : Nat) (h : Heap) (R : Value → Heap → Prop) : Prop :=
  br ((↑a_l : Int) != (↑b_l : Int)) (R (Value.bool false) h)
  (∃ (I0 : Int → Heap → Prop),
    ∃ (μ1 : Int → Heap → Nat),
      I0 (0 : Int) h ∧
        ∀ (n2 : Int) (h3 : Heap),
          I0 n2 h3 →
            br (decide (n2 < (↑a_l : Int)))
              ((0 : Int) ≤ n2 ∧
                n2 < (↑a_l : Int) ∧
                  deref a fun (a4 : Addr) =>
                    ∃ (n5 : Int),
                      cell h3 (Addr.add a4 (Int.toNat n2 * (1 : Nat))) = some (Value.int IntKind.u8 n5) ∧
                        (0 : Int) ≤ n2 ∧
                          n2 < (↑b_l : Int) ∧
                            deref b fun (a6 : Addr) =>
                              ∃ (n7 : Int),
                                cell h3 (Addr.add a6 (Int.toNat n2 * (1 : Nat))) = some (Value.int IntKind.u8 n7) ∧
                                  br (n5 != n7) (R (Value.bool false) h3) (I0 (IntKind.wrap IntKind.i64 (n2 + (1 : Int))) h3 ∧ μ1 (IntKind.wrap IntKind.i64 (n2 + (1 : Int))) h3 < μ1 n2 h3))
              (R (Value.bool true) h3))
theorem C34 (a : Option Addr) (a_l : Nat) (a_c : Nat) (b : Option Addr) (b_l : Nat) (b_c : Nat) {h : Heap} {R : Value → Heap → Prop} (H : F34 a a_l a_c b b_l b_c h R) : CallsH Go.Proofs.Try.prog 34 [(.slice a a_l a_c), (.slice b b_l b_c)].toArray h R :=
  fn_sound (A := A34) (Eq.mp (by kernel_rfl : F34 a a_l a_c b b_l b_c h R = fnVc Go.Proofs.Try.prog A34 34 [(.slice a a_l a_c), (.slice b b_l b_c)] h R) H)

/- rolodex/rolodexref01.Few -/
def A35 : Ann := { qs := [34, 35, 36, 38, 59, 63, 106, 118, 160, 102, 31, 32, 29, 60, 61, 62], loops := [(2, [(5, (.int .i64))])] }
def F35 (l : Option Addr) (l_l : Nat) (l_c : Nat) (n : Int) (h : Heap) (R : Value → Heap → Prop) : Prop :=
  ∃ (I0 : Int → Heap → Prop),
  ∃ (μ1 : Int → Heap → Nat),
    I0 (0 : Int) h ∧
      ∀ (n2 : Int) (h3 : Heap),
        I0 n2 h3 →
          br (decide (n2 < (↑l_l : Int)))
            (br (decide (n2 < (200 : Int)))
              ((0 : Int) ≤ n2 ∧
                n2 < (↑l_l : Int) ∧
                  deref l fun (a4 : Addr) =>
                    ∃ (p5 : Option Addr),
                      ∃ (l6 : Nat),
                        ∃ (c7 : Nat),
                          cell h3 (Addr.add (Addr.add a4 (Int.toNat n2 * (3 : Nat))) (2 : Nat)) = some (Value.slice p5 l6 c7) ∧
                            br (decide ((↑l6 : Int) > (9000 : Int))) (R (Value.bool false) h3)
                              (I0 (IntKind.wrap IntKind.i64 (n2 + (1 : Int))) h3 ∧ μ1 (IntKind.wrap IntKind.i64 (n2 + (1 : Int))) h3 < μ1 n2 h3))
              (R (Value.bool (decide ((↑l_l : Int) ≤ n))) h3))
            (R (Value.bool (decide ((↑l_l : Int) ≤ n))) h3)
theorem C35 (l : Option Addr) (l_l : Nat) (l_c : Nat) (n : Int) {h : Heap} {R : Value → Heap → Prop} (H : F35 l l_l l_c n h R) : CallsH Go.Proofs.Try.prog 35 [(.slice l l_l l_c), (.int .i64 n)].toArray h R :=
  fn_sound (A := A35) (Eq.mp (by kernel_rfl : F35 l l_l l_c n h R = fnVc Go.Proofs.Try.prog A35 35 [(.slice l l_l l_c), (.int .i64 n)] h R) H)

/- rolodex/rolodexlaw01.small -/
def A36 : Ann := { qs := [34, 35, 36, 38, 59, 63, 106, 118, 160, 102, 31, 32, 29, 60, 61, 62], loops := [(2, [(3, (.int .i64))])] }
def F36 (l : Option Addr) (l_l : Nat) (l_c : Nat) (h : Heap) (R : Value → Heap → Prop) : Prop :=
  ∃ (I0 : Int → Heap → Prop),
  ∃ (μ1 : Int → Heap → Nat),
    I0 (0 : Int) h ∧
      ∀ (n2 : Int) (h3 : Heap),
        I0 n2 h3 →
          br (decide (n2 < (↑l_l : Int)))
            ((0 : Int) ≤ n2 ∧
              n2 < (↑l_l : Int) ∧
                deref l fun (a4 : Addr) =>
                  ∃ (n5 : Int),
                    cell h3 (Addr.add (Addr.add a4 (Int.toNat n2 * (3 : Nat))) (1 : Nat)) = some (Value.int IntKind.u64 n5) ∧
                      br (decide (n5 > (4611686018427387904 : Int)))
                        ((0 : Int) ≤ n2 ∧
                          n2 < (↑l_l : Int) ∧
                            deref l fun (a6 : Addr) =>
                              ∃ (n7 : Int),
                                cell h3 (Addr.add (Addr.add a6 (Int.toNat n2 * (3 : Nat))) (0 : Nat)) = some (Value.int IntKind.i64 n7) ∧
                                  br (n7 != (4 : Int)) (R (Value.bool false) h3) (I0 (IntKind.wrap IntKind.i64 (n2 + (1 : Int))) h3 ∧ μ1 (IntKind.wrap IntKind.i64 (n2 + (1 : Int))) h3 < μ1 n2 h3))
                        (I0 (IntKind.wrap IntKind.i64 (n2 + (1 : Int))) h3 ∧ μ1 (IntKind.wrap IntKind.i64 (n2 + (1 : Int))) h3 < μ1 n2 h3))
            (R (Value.bool true) h3)
theorem C36 (l : Option Addr) (l_l : Nat) (l_c : Nat) {h : Heap} {R : Value → Heap → Prop} (H : F36 l l_l l_c h R) : CallsH Go.Proofs.Try.prog 36 [(.slice l l_l l_c)].toArray h R :=
  fn_sound (A := A36) (Eq.mp (by kernel_rfl : F36 l l_l l_c h R = fnVc Go.Proofs.Try.prog A36 36 [(.slice l l_l l_c)] h R) H)

/- rolodex/rolodexlaw01.put -/
def A37 : Ann := { qs := [34, 35, 36, 38, 59, 63, 106, 118, 160, 102, 31, 32, 29, 60, 61, 62] }
def F37 (w : Option Addr) (f : Array Value) (h : Heap) (R : Value → Heap → Prop) : Prop :=
  newBlk h (42 : Nat) f fun (b0 : Nat) (h1 : Heap) =>
  ∃ (n2 : Int),
    cell h1 (Addr.add (Addr.mk b0 (0 : Nat) none) (0 : Nat)) = some (Value.int IntKind.i64 n2) ∧
      br (n2 == (1 : Int))
        (∃ (n3 : Int),
          cell h1 (Addr.add (Addr.mk b0 (0 : Nat) none) (1 : Nat)) = some (Value.int IntKind.u64 n3) ∧
            CallsH Try.prog (39 : Nat) #[Value.pointer w, Value.int IntKind.i64 (IntKind.wrap IntKind.i64 n3)] h1 fun (v4 : Value) (h5 : Heap) => v4 = Value.tuple #[] ∧ R (Value.tuple #[]) h5)
        (br (n2 == (2 : Int))
          (∃ (n6 : Int),
            cell h1 (Addr.add (Addr.mk b0 (0 : Nat) none) (1 : Nat)) = some (Value.int IntKind.u64 n6) ∧
              CallsH Try.prog (40 : Nat) #[Value.pointer w, Value.int IntKind.i64 (IntKind.wrap IntKind.i64 n6)] h1 fun (v7 : Value) (h8 : Heap) => v7 = Value.tuple #[] ∧ R (Value.tuple #[]) h8)
          (br (n2 == (3 : Int))
            (∃ (n9 : Int),
              cell h1 (Addr.add (Addr.mk b0 (0 : Nat) none) (1 : Nat)) = some (Value.int IntKind.u64 n9) ∧
                CallsH Try.prog (104 : Nat) #[Value.pointer w, Value.int IntKind.u32 (IntKind.wrap IntKind.u32 n9)] h1 fun (v10 : Value) (h11 : Heap) =>
                  v10 = Value.tuple #[] ∧ R (Value.tuple #[]) h11)
            (br (n2 == (4 : Int))
              (∃ (n12 : Int),
                cell h1 (Addr.add (Addr.mk b0 (0 : Nat) none) (1 : Nat)) = some (Value.int IntKind.u64 n12) ∧
                  CallsH Try.prog (105 : Nat) #[Value.pointer w, Value.int IntKind.u64 n12] h1 fun (v13 : Value) (h14 : Heap) => v13 = Value.tuple #[] ∧ R (Value.tuple #[]) h14)
              (br (n2 == (5 : Int))
                (∃ (n15 : Int),
                  cell h1 (Addr.add (Addr.mk b0 (0 : Nat) none) (1 : Nat)) = some (Value.int IntKind.u64 n15) ∧
                    (2 : Int) ≠ (0 : Int) ∧
                      CallsH Try.prog (101 : Nat) #[Value.pointer w, Value.bool (Int.tmod n15 (2 : Int) == (1 : Int))] h1 fun (v16 : Value) (h17 : Heap) =>
                        v16 = Value.tuple #[] ∧ R (Value.tuple #[]) h17)
                (br (n2 == (6 : Int))
                  (∃ (p18 : Option Addr),
                    ∃ (l19 : Nat),
                      ∃ (c20 : Nat),
                        cell h1 (Addr.add (Addr.mk b0 (0 : Nat) none) (2 : Nat)) = some (Value.slice p18 l19 c20) ∧
                          CallsH Try.prog (30 : Nat) #[Value.pointer w, Value.slice p18 l19 c20] h1 fun (v21 : Value) (h22 : Heap) => v21 = Value.tuple #[] ∧ R (Value.tuple #[]) h22)
                  (br (n2 == (7 : Int))
                    (∃ (p23 : Option Addr),
                      ∃ (l24 : Nat),
                        ∃ (c25 : Nat),
                          cell h1 (Addr.add (Addr.mk b0 (0 : Nat) none) (2 : Nat)) = some (Value.slice p23 l24 c25) ∧
                            CallsH Try.prog (42 : Nat) #[Value.pointer w, Value.slice p23 l24 c25] h1 fun (v26 : Value) (h27 : Heap) => v26 = Value.tuple #[] ∧ R (Value.tuple #[]) h27)
                    (br (n2 == (8 : Int))
                      (∃ (n28 : Int),
                        cell h1 (Addr.add (Addr.mk b0 (0 : Nat) none) (1 : Nat)) = some (Value.int IntKind.u64 n28) ∧
                          CallsH Try.prog (41 : Nat) #[Value.pointer w, Value.int IntKind.i64 (IntKind.wrap IntKind.i64 n28)] h1 fun (v29 : Value) (h30 : Heap) =>
                            v29 = Value.tuple #[] ∧ R (Value.tuple #[]) h30)
                      (R (Value.tuple #[]) h1))))))))
theorem C37 (w : Option Addr) (f : Array Value) {h : Heap} {R : Value → Heap → Prop} (H : F37 w f h R) : CallsH Go.Proofs.Try.prog 37 [(.pointer w), (.agg f)].toArray h R :=
  fn_sound (A := A37) (Eq.mp (by kernel_rfl : F37 w f h R = fnVc Go.Proofs.Try.prog A37 37 [(.pointer w), (.agg f)] h R) H)

/- rolodex/rolodexref01.All -/
def A38 : Ann := { qs := [34, 35, 36, 38, 59, 63, 106, 118, 160, 102, 31, 32, 29, 60, 61, 62], loops := [(3, [(4, .slice), (5, (.int .i64))])] }
def F38 (l : Option Addr) (l_l : Nat) (l_c : Nat) (h : Heap) (R : Value → Heap → Prop) : Prop :=
  ∃ (I0 : (Option Addr × Nat × Nat) × Int → Heap → Prop),
  ∃ (μ1 : (Option Addr × Nat × Nat) × Int → Heap → Nat),
    I0 ((none, (0 : Nat), (0 : Nat)), (0 : Int)) h ∧
      ∀ (s2 : (Option Addr × Nat × Nat) × Int) (h3 : Heap),
        I0 s2 h3 →
          br (decide (Prod.snd s2 < (↑l_l : Int)))
            ((0 : Int) ≤ Prod.snd s2 ∧
              Prod.snd s2 < (↑l_l : Int) ∧
                deref l fun (a4 : Addr) =>
                  ∃ (cs5 : Array Value),
                    row h3 (Addr.add a4 (Int.toNat (Prod.snd s2) * (3 : Nat))) (3 : Nat) = some cs5 ∧
                      CallsH Try.prog (106 : Nat) #[Value.agg cs5] h3 fun (v6 : Value) (h7 : Heap) =>
                        Ext h3 h7 ∧
                          ∃ (p8 : Option Addr),
                            ∃ (l9 : Nat),
                              ∃ (c10 : Nat),
                                ∃ (t11 : Bool),
                                  v6 = Value.tuple #[Value.slice p8 l9 c10, Value.bool t11] ∧
                                    br (!t11) (R (Value.tuple #[Value.slice none (0 : Nat) (0 : Nat), Value.bool false]) h7)
                                      (appendP (5 : Nat) (1 : Nat) (1 : Nat) #[Value.int IntKind.u8 (0 : Int)] (Prod.fst (Prod.fst s2)) (Prod.fst (Prod.snd (Prod.fst s2)))
                                        (Prod.snd (Prod.snd (Prod.fst s2))) p8 l9 h7 fun (p12 : Option Addr) (l13 c14 : Nat) (h15 : Heap) =>
                                        I0 ((p12, l13, c14), IntKind.wrap IntKind.i64 (Prod.snd s2 + (1 : Int))) h15 ∧
                                          μ1 ((p12, l13, c14), IntKind.wrap IntKind.i64 (Prod.snd s2 + (1 : Int))) h15 < μ1 s2 h3))
            (R (Value.tuple #[Value.slice (Prod.fst (Prod.fst s2)) (Prod.fst (Prod.snd (Prod.fst s2))) (Prod.snd (Prod.snd (Prod.fst s2))), Value.bool true]) h3)
theorem C38 (l : Option Addr) (l_l : Nat) (l_c : Nat) {h : Heap} {R : Value → Heap → Prop} (H : F38 l l_l l_c h R) : CallsH Go.Proofs.Try.prog 38 [(.slice l l_l l_c)].toArray h R :=
  fn_sound (A := A38) (Eq.mp (by kernel_rfl : F38 l l_l l_c h R = fnVc Go.Proofs.Try.prog A38 38 [(.slice l l_l l_c)] h R) H)

/- (*rolodex/wire.Writer).U8 -/
def A39 : Ann := { qs := [34, 35, 36, 38, 59, 63, 106, 118, 160, 102, 31, 32, 29, 60, 61, 62] }
def F39 (w : Option Addr) (x : Int) (h : Heap) (R : Value → Heap → Prop) : Prop :=
  CallsH Try.prog (107 : Nat) #[Value.pointer w, Value.int IntKind.i64 x, Value.int IntKind.i64 (255 : Int)] h fun (v0 : Value) (h1 : Heap) =>
  ∃ (t2 : Bool),
    v0 = Value.bool t2 ∧
      br t2
        (CallsH Try.prog (108 : Nat) #[Value.pointer w, Value.int IntKind.u64 (IntKind.wrap IntKind.u64 x), Value.int IntKind.i64 (1 : Int)] h1 fun (v3 : Value) (h4 : Heap) =>
          v3 = Value.tuple #[] ∧ R (Value.tuple #[]) h4)
        (R (Value.tuple #[]) h1)
theorem C39 (w : Option Addr) (x : Int) {h : Heap} {R : Value → Heap → Prop} (H : F39 w x h R) : CallsH Go.Proofs.Try.prog 39 [(.pointer w), (.int .i64 x)].toArray h R :=
  fn_sound (A := A39) (Eq.mp (by kernel_rfl : F39 w x h R = fnVc Go.Proofs.Try.prog A39 39 [(.pointer w), (.int .i64 x)] h R) H)

/- (*rolodex/wire.Writer).U16 -/
def A40 : Ann := { qs := [34, 35, 36, 38, 59, 63, 106, 118, 160, 102, 31, 32, 29, 60, 61, 62] }
def F40 (w : Option Addr) (x : Int) (h : Heap) (R : Value → Heap → Prop) : Prop :=
  CallsH Try.prog (107 : Nat) #[Value.pointer w, Value.int IntKind.i64 x, Value.int IntKind.i64 (65535 : Int)] h fun (v0 : Value) (h1 : Heap) =>
  ∃ (t2 : Bool),
    v0 = Value.bool t2 ∧
      br t2
        (CallsH Try.prog (108 : Nat) #[Value.pointer w, Value.int IntKind.u64 (IntKind.wrap IntKind.u64 x), Value.int IntKind.i64 (2 : Int)] h1 fun (v3 : Value) (h4 : Heap) =>
          v3 = Value.tuple #[] ∧ R (Value.tuple #[]) h4)
        (R (Value.tuple #[]) h1)
theorem C40 (w : Option Addr) (x : Int) {h : Heap} {R : Value → Heap → Prop} (H : F40 w x h R) : CallsH Go.Proofs.Try.prog 40 [(.pointer w), (.int .i64 x)].toArray h R :=
  fn_sound (A := A40) (Eq.mp (by kernel_rfl : F40 w x h R = fnVc Go.Proofs.Try.prog A40 40 [(.pointer w), (.int .i64 x)] h R) H)

/- (*rolodex/wire.Writer).Count -/
def A41 : Ann := { qs := [34, 35, 36, 38, 59, 63, 106, 118, 160, 102, 31, 32, 29, 60, 61, 62] }
def F41 (w : Option Addr) (n : Int) (h : Heap) (R : Value → Heap → Prop) : Prop :=
  CallsH Try.prog (107 : Nat) #[Value.pointer w, Value.int IntKind.i64 n, Value.int IntKind.i64 (4096 : Int)] h fun (v0 : Value) (h1 : Heap) =>
  ∃ (t2 : Bool),
    v0 = Value.bool t2 ∧
      br t2
        (CallsH Try.prog (108 : Nat) #[Value.pointer w, Value.int IntKind.u64 (IntKind.wrap IntKind.u64 n), Value.int IntKind.i64 (2 : Int)] h1 fun (v3 : Value) (h4 : Heap) =>
          v3 = Value.tuple #[] ∧ R (Value.tuple #[]) h4)
        (R (Value.tuple #[]) h1)
theorem C41 (w : Option Addr) (n : Int) {h : Heap} {R : Value → Heap → Prop} (H : F41 w n h R) : CallsH Go.Proofs.Try.prog 41 [(.pointer w), (.int .i64 n)].toArray h R :=
  fn_sound (A := A41) (Eq.mp (by kernel_rfl : F41 w n h R = fnVc Go.Proofs.Try.prog A41 41 [(.pointer w), (.int .i64 n)] h R) H)

/- (*rolodex/wire.Writer).String -/
def A42 : Ann := { qs := [34, 35, 36, 38, 59, 63, 106, 118, 160, 102, 31, 32, 29, 60, 61, 62] }
def F42 (w : Option Addr) (b : Option Addr) (b_l : Nat) (b_c : Nat) (h : Heap) (R : Value → Heap → Prop) : Prop :=
  CallsH Try.prog (107 : Nat) #[Value.pointer w, Value.int IntKind.i64 (↑b_l : Int), Value.int IntKind.i64 (8192 : Int)] h fun (v0 : Value) (h1 : Heap) =>
  ∃ (t2 : Bool),
    v0 = Value.bool t2 ∧
      br t2
        (CallsH Try.prog (108 : Nat) #[Value.pointer w, Value.int IntKind.u64 (IntKind.wrap IntKind.u64 (↑b_l : Int)), Value.int IntKind.i64 (2 : Int)] h1 fun (v3 : Value) (h4 : Heap) =>
          v3 = Value.tuple #[] ∧ CallsH Try.prog (30 : Nat) #[Value.pointer w, Value.slice b b_l b_c] h4 fun (v5 : Value) (h6 : Heap) => v5 = Value.tuple #[] ∧ R (Value.tuple #[]) h6)
        (R (Value.tuple #[]) h1)
theorem C42 (w : Option Addr) (b : Option Addr) (b_l : Nat) (b_c : Nat) {h : Heap} {R : Value → Heap → Prop} (H : F42 w b b_l b_c h R) : CallsH Go.Proofs.Try.prog 42 [(.pointer w), (.slice b b_l b_c)].toArray h R :=
  fn_sound (A := A42) (Eq.mp (by kernel_rfl : F42 w b b_l b_c h R = fnVc Go.Proofs.Try.prog A42 42 [(.pointer w), (.slice b b_l b_c)] h R) H)

/- rolodex/rolodexlaw01.take -/
def A58 : Ann := { qs := [34, 35, 36, 38, 59, 63, 106, 118, 160, 102, 31, 32, 29, 60, 61, 62] }
def F58 (r : Option Addr) (kind : Int) (most : Int) (h : Heap) (R : Value → Heap → Prop) : Prop :=
  newBlk h (42 : Nat) #[Value.int IntKind.i64 (0 : Int), Value.int IntKind.u64 (0 : Int), Value.slice none (0 : Nat) (0 : Nat)] fun (b0 : Nat) (h1 : Heap) =>
  newBlk h1 (42 : Nat) #[Value.int IntKind.i64 (0 : Int), Value.int IntKind.u64 (0 : Int), Value.slice none (0 : Nat) (0 : Nat)] fun (b2 : Nat) (h3 : Heap) =>
    storeP (some (3 : Nat)) h3 (Addr.mk b2 (0 : Nat) none) (Value.agg #[Value.int IntKind.i64 kind, Value.int IntKind.u64 (0 : Int), Value.slice none (0 : Nat) (0 : Nat)]) fun (h4 : Heap) =>
      br (kind == (1 : Int))
        (CallsH Try.prog (111 : Nat) #[Value.pointer r] h4 fun (v5 : Value) (h6 : Heap) =>
          ∃ (n7 : Int),
            v5 = Value.int IntKind.i64 n7 ∧
              storeP none h6 (Addr.mk (Addr.block (Addr.mk b2 (0 : Nat) none)) (Addr.off (Addr.mk b2 (0 : Nat) none) + (1 : Nat)) none) (Value.int IntKind.u64 (IntKind.wrap IntKind.u64 n7))
                fun (h8 : Heap) =>
                ∃ (cs9 : Array Value),
                  row h8 (Addr.mk b2 (0 : Nat) none) (3 : Nat) = some cs9 ∧
                    storeP (some (3 : Nat)) h8 (Addr.mk b0 (0 : Nat) none) (Value.agg cs9) fun (h10 : Heap) =>
                      ∃ (cs11 : Array Value), row h10 (Addr.mk b0 (0 : Nat) none) (3 : Nat) = some cs11 ∧ R (Value.agg cs11) h10)
        (br (kind == (2 : Int))
          (CallsH Try.prog (112 : Nat) #[Value.pointer r] h4 fun (v12 : Value) (h13 : Heap) =>
            ∃ (n14 : Int),
              v12 = Value.int IntKind.i64 n14 ∧
                storeP none h13 (Addr.mk (Addr.block (Addr.mk b2 (0 : Nat) none)) (Addr.off (Addr.mk b2 (0 : Nat) none) + (1 : Nat)) none) (Value.int IntKind.u64 (IntKind.wrap IntKind.u64 n14))
                  fun (h15 : Heap) =>
                  ∃ (cs16 : Array Value),
                    row h15 (Addr.mk b2 (0 : Nat) none) (3 : Nat) = some cs16 ∧
                      storeP (some (3 : Nat)) h15 (Addr.mk b0 (0 : Nat) none) (Value.agg cs16) fun (h17 : Heap) =>
                        ∃ (cs18 : Array Value), row h17 (Addr.mk b0 (0 : Nat) none) (3 : Nat) = some cs18 ∧ R (Value.agg cs18) h17)
          (br (kind == (3 : Int))
            (CallsH Try.prog (113 : Nat) #[Value.pointer r] h4 fun (v19 : Value) (h20 : Heap) =>
              ∃ (n21 : Int),
                v19 = Value.int IntKind.u32 n21 ∧
                  storeP none h20 (Addr.mk (Addr.block (Addr.mk b2 (0 : Nat) none)) (Addr.off (Addr.mk b2 (0 : Nat) none) + (1 : Nat)) none) (Value.int IntKind.u64 (IntKind.wrap IntKind.u64 n21))
                    fun (h22 : Heap) =>
                    ∃ (cs23 : Array Value),
                      row h22 (Addr.mk b2 (0 : Nat) none) (3 : Nat) = some cs23 ∧
                        storeP (some (3 : Nat)) h22 (Addr.mk b0 (0 : Nat) none) (Value.agg cs23) fun (h24 : Heap) =>
                          ∃ (cs25 : Array Value), row h24 (Addr.mk b0 (0 : Nat) none) (3 : Nat) = some cs25 ∧ R (Value.agg cs25) h24)
            (br (kind == (4 : Int))
              (CallsH Try.prog (114 : Nat) #[Value.pointer r] h4 fun (v26 : Value) (h27 : Heap) =>
                ∃ (n28 : Int),
                  v26 = Value.int IntKind.u64 n28 ∧
                    storeP none h27 (Addr.mk (Addr.block (Addr.mk b2 (0 : Nat) none)) (Addr.off (Addr.mk b2 (0 : Nat) none) + (1 : Nat)) none) (Value.int IntKind.u64 n28) fun (h29 : Heap) =>
                      ∃ (cs30 : Array Value),
                        row h29 (Addr.mk b2 (0 : Nat) none) (3 : Nat) = some cs30 ∧
                          storeP (some (3 : Nat)) h29 (Addr.mk b0 (0 : Nat) none) (Value.agg cs30) fun (h31 : Heap) =>
                            ∃ (cs32 : Array Value), row h31 (Addr.mk b0 (0 : Nat) none) (3 : Nat) = some cs32 ∧ R (Value.agg cs32) h31)
              (br (kind == (5 : Int))
                (CallsH Try.prog (115 : Nat) #[Value.pointer r] h4 fun (v33 : Value) (h34 : Heap) =>
                  ∃ (t35 : Bool),
                    v33 = Value.bool t35 ∧
                      br t35
                        (storeP none h34 (Addr.mk (Addr.block (Addr.mk b2 (0 : Nat) none)) (Addr.off (Addr.mk b2 (0 : Nat) none) + (1 : Nat)) none) (Value.int IntKind.u64 (1 : Int))
                          fun (h36 : Heap) =>
                          ∃ (cs37 : Array Value),
                            row h36 (Addr.mk b2 (0 : Nat) none) (3 : Nat) = some cs37 ∧
                              storeP (some (3 : Nat)) h36 (Addr.mk b0 (0 : Nat) none) (Value.agg cs37) fun (h38 : Heap) =>
                                ∃ (cs39 : Array Value), row h38 (Addr.mk b0 (0 : Nat) none) (3 : Nat) = some cs39 ∧ R (Value.agg cs39) h38)
                        (∃ (cs40 : Array Value),
                          row h34 (Addr.mk b2 (0 : Nat) none) (3 : Nat) = some cs40 ∧
                            storeP (some (3 : Nat)) h34 (Addr.mk b0 (0 : Nat) none) (Value.agg cs40) fun (h41 : Heap) =>
                              ∃ (cs42 : Array Value), row h41 (Addr.mk b0 (0 : Nat) none) (3 : Nat) = some cs42 ∧ R (Value.agg cs42) h41))
                (br (kind == (6 : Int))
                  (CallsH Try.prog (33 : Nat) #[Value.pointer r, Value.int IntKind.i64 (IntKind.wrap IntKind.i64 most)] h4 fun (v43 : Value) (h44 : Heap) =>
                    ∃ (p45 : Option Addr),
                      ∃ (l46 : Nat),
                        ∃ (c47 : Nat),
                          v43 = Value.slice p45 l46 c47 ∧
                            storeP none h44 (Addr.mk (Addr.block (Addr.mk b2 (0 : Nat) none)) (Addr.off (Addr.mk b2 (0 : Nat) none) + (2 : Nat)) none) (Value.slice p45 l46 c47) fun (h48 : Heap) =>
                              ∃ (cs49 : Array Value),
                                row h48 (Addr.mk b2 (0 : Nat) none) (3 : Nat) = some cs49 ∧
                                  storeP (some (3 : Nat)) h48 (Addr.mk b0 (0 : Nat) none) (Value.agg cs49) fun (h50 : Heap) =>
                                    ∃ (cs51 : Array Value), row h50 (Addr.mk b0 (0 : Nat) none) (3 : Nat) = some cs51 ∧ R (Value.agg cs51) h50)
                  (br (kind == (7 : Int))
                    (CallsH Try.prog (116 : Nat) #[Value.pointer r, Value.int IntKind.i64 (IntKind.wrap IntKind.i64 most)] h4 fun (v52 : Value) (h53 : Heap) =>
                      ∃ (p54 : Option Addr),
                        ∃ (l55 : Nat),
                          ∃ (c56 : Nat),
                            v52 = Value.slice p54 l55 c56 ∧
                              storeP none h53 (Addr.mk (Addr.block (Addr.mk b2 (0 : Nat) none)) (Addr.off (Addr.mk b2 (0 : Nat) none) + (2 : Nat)) none) (Value.slice p54 l55 c56) fun (h57 : Heap) =>
                                ∃ (cs58 : Array Value),
                                  row h57 (Addr.mk b2 (0 : Nat) none) (3 : Nat) = some cs58 ∧
                                    storeP (some (3 : Nat)) h57 (Addr.mk b0 (0 : Nat) none) (Value.agg cs58) fun (h59 : Heap) =>
                                      ∃ (cs60 : Array Value), row h59 (Addr.mk b0 (0 : Nat) none) (3 : Nat) = some cs60 ∧ R (Value.agg cs60) h59)
                    (br (kind == (8 : Int))
                      (CallsH Try.prog (117 : Nat) #[Value.pointer r, Value.int IntKind.i64 (IntKind.wrap IntKind.i64 most)] h4 fun (v61 : Value) (h62 : Heap) =>
                        ∃ (n63 : Int),
                          v61 = Value.int IntKind.i64 n63 ∧
                            storeP none h62 (Addr.mk (Addr.block (Addr.mk b2 (0 : Nat) none)) (Addr.off (Addr.mk b2 (0 : Nat) none) + (1 : Nat)) none)
                              (Value.int IntKind.u64 (IntKind.wrap IntKind.u64 n63)) fun (h64 : Heap) =>
                              ∃ (cs65 : Array Value),
                                row h64 (Addr.mk b2 (0 : Nat) none) (3 : Nat) = some cs65 ∧
                                  storeP (some (3 : Nat)) h64 (Addr.mk b0 (0 : Nat) none) (Value.agg cs65) fun (h66 : Heap) =>
                                    ∃ (cs67 : Array Value), row h66 (Addr.mk b0 (0 : Nat) none) (3 : Nat) = some cs67 ∧ R (Value.agg cs67) h66)
                      (∃ (cs68 : Array Value),
                        row h4 (Addr.mk b2 (0 : Nat) none) (3 : Nat) = some cs68 ∧
                          storeP (some (3 : Nat)) h4 (Addr.mk b0 (0 : Nat) none) (Value.agg cs68) fun (h69 : Heap) =>
                            ∃ (cs70 : Array Value), row h69 (Addr.mk b0 (0 : Nat) none) (3 : Nat) = some cs70 ∧ R (Value.agg cs70) h69))))))))
theorem C58 (r : Option Addr) (kind : Int) (most : Int) {h : Heap} {R : Value → Heap → Prop} (H : F58 r kind most h R) : CallsH Go.Proofs.Try.prog 58 [(.pointer r), (.int .i64 kind), (.int .u64 most)].toArray h R :=
  fn_sound (A := A58) (Eq.mp (by kernel_rfl : F58 r kind most h R = fnVc Go.Proofs.Try.prog A58 58 [(.pointer r), (.int .i64 kind), (.int .u64 most)] h R) H)

/- rolodex/rolodexref01.Take -/
def A59 : Ann := { qs := [34, 35, 36, 38, 59, 63, 106, 118, 160, 102, 31, 32, 29, 60, 61, 62], plans := [(6, (.take 0 (.take 1 (.take 2 (.take 3 (.alt 4 (.take 5 (.take 6 .done)) .stop)))))), (19, (.take 0 (.take 1 (.take 2 (.take 3 (.take 4 (.alt 5 (.take 6 (.take 7 .done)) .stop))))))), (21, (.take 0 (.take 1 (.take 2 (.take 3 (.alt 4 (.take 5 (.take 6 .done)) .stop))))))] }
def F59 (b : Option Addr) (b_l : Nat) (b_c : Nat) (kind : Int) (most : Int) (h : Heap) (R : Value → Heap → Prop) : Prop :=
  newBlk h (42 : Nat) #[Value.int IntKind.i64 (0 : Int), Value.int IntKind.u64 (0 : Int), Value.slice none (0 : Nat) (0 : Nat)] fun (b0 : Nat) (h1 : Heap) =>
  newBlk h1 (42 : Nat) #[Value.int IntKind.i64 (0 : Int), Value.int IntKind.u64 (0 : Int), Value.slice none (0 : Nat) (0 : Nat)] fun (b2 : Nat) (h3 : Heap) =>
    storeP (some (3 : Nat)) h3 (Addr.mk b2 (0 : Nat) none) (Value.agg #[Value.int IntKind.i64 kind, Value.int IntKind.u64 (0 : Int), Value.slice none (0 : Nat) (0 : Nat)]) fun (h4 : Heap) =>
      br (kind == (6 : Int))
        (br (decide (most > IntKind.wrap IntKind.u64 (↑b_l : Int)))
          (storeP (some (3 : Nat)) h4 (Addr.mk b0 (0 : Nat) none) (Value.agg #[Value.int IntKind.i64 (0 : Int), Value.int IntKind.u64 (0 : Int), Value.slice none (0 : Nat) (0 : Nat)])
            fun (h5 : Heap) => ∃ (cs6 : Array Value), row h5 (Addr.mk b0 (0 : Nat) none) (3 : Nat) = some cs6 ∧ R (Value.tuple #[Value.agg cs6, Value.slice b b_l b_c, Value.bool false]) h5)
          (sliceP (1 : Nat) b (0 : Int) most (↑b_c : Int) b_c fun (p7 : Option Addr) (l8 c9 : Nat) =>
            storeP none h4 (Addr.mk (Addr.block (Addr.mk b2 (0 : Nat) none)) (Addr.off (Addr.mk b2 (0 : Nat) none) + (2 : Nat)) none) (Value.slice p7 l8 c9) fun (h10 : Heap) =>
              ∃ (cs11 : Array Value),
                row h10 (Addr.mk b2 (0 : Nat) none) (3 : Nat) = some cs11 ∧
                  sliceP (1 : Nat) b most (↑b_l : Int) (↑b_c : Int) b_c fun (p12 : Option Addr) (l13 c14 : Nat) =>
                    storeP (some (3 : Nat)) h10 (Addr.mk b0 (0 : Nat) none) (Value.agg cs11) fun (h15 : Heap) =>
                      ∃ (cs16 : Array Value), row h15 (Addr.mk b0 (0 : Nat) none) (3 : Nat) = some cs16 ∧ R (Value.tuple #[Value.agg cs16, Value.slice p12 l13 c14, Value.bool true]) h15))
        (CallsH Try.prog (63 : Nat) #[Value.int IntKind.i64 kind] h4 fun (v17 : Value) (h18 : Heap) =>
          Ext h4 h18 ∧
            ∃ (n19 : Int),
              v17 = Value.int IntKind.i64 n19 ∧
                br (kind == (7 : Int))
                  (br (decide ((↑b_l : Int) < (2 : Int)))
                    (storeP (some (3 : Nat)) h18 (Addr.mk b0 (0 : Nat) none) (Value.agg #[Value.int IntKind.i64 (0 : Int), Value.int IntKind.u64 (0 : Int), Value.slice none (0 : Nat) (0 : Nat)])
                      fun (h20 : Heap) =>
                      ∃ (cs21 : Array Value), row h20 (Addr.mk b0 (0 : Nat) none) (3 : Nat) = some cs21 ∧ R (Value.tuple #[Value.agg cs21, Value.slice b b_l b_c, Value.bool false]) h20)
                    (sliceP (1 : Nat) b (0 : Int) (2 : Int) (↑b_c : Int) b_c fun (p22 : Option Addr) (l23 c24 : Nat) =>
                      CallsH Try.prog (118 : Nat) #[Value.slice p22 l23 c24] h18 fun (v25 : Value) (h26 : Heap) =>
                        Ext h18 h26 ∧
                          ∃ (n27 : Int),
                            v25 = Value.int IntKind.u64 n27 ∧
                              br (kind == (5 : Int))
                                (br (decide (n27 > (1 : Int)))
                                  (storeP (some (3 : Nat)) h26 (Addr.mk b0 (0 : Nat) none)
                                    (Value.agg #[Value.int IntKind.i64 (0 : Int), Value.int IntKind.u64 (0 : Int), Value.slice none (0 : Nat) (0 : Nat)]) fun (h28 : Heap) =>
                                    ∃ (cs29 : Array Value), row h28 (Addr.mk b0 (0 : Nat) none) (3 : Nat) = some cs29 ∧ R (Value.tuple #[Value.agg cs29, Value.slice b b_l b_c, Value.bool false]) h28)
                                  (br (kind == (8 : Int))
                                    (br (decide (n27 > most))
                                      (storeP (some (3 : Nat)) h26 (Addr.mk b0 (0 : Nat) none)
                                        (Value.agg #[Value.int IntKind.i64 (0 : Int), Value.int IntKind.u64 (0 : Int), Value.slice none (0 : Nat) (0 : Nat)]) fun (h30 : Heap) =>
                                        ∃ (cs31 : Array Value),
                                          row h30 (Addr.mk b0 (0 : Nat) none) (3 : Nat) = some cs31 ∧ R (Value.tuple #[Value.agg cs31, Value.slice b b_l b_c, Value.bool false]) h30)
                                      (br (decide (n27 > (4096 : Int)))
                                        (storeP (some (3 : Nat)) h26 (Addr.mk b0 (0 : Nat) none)
                                          (Value.agg #[Value.int IntKind.i64 (0 : Int), Value.int IntKind.u64 (0 : Int), Value.slice none (0 : Nat) (0 : Nat)]) fun (h32 : Heap) =>
                                          ∃ (cs33 : Array Value),
                                            row h32 (Addr.mk b0 (0 : Nat) none) (3 : Nat) = some cs33 ∧ R (Value.tuple #[Value.agg cs33, Value.slice b b_l b_c, Value.bool false]) h32)
                                        (br (kind == (7 : Int))
                                          (br (decide (n27 > most))
                                            (storeP (some (3 : Nat)) h26 (Addr.mk b0 (0 : Nat) none)
                                              (Value.agg #[Value.int IntKind.i64 (0 : Int), Value.int IntKind.u64 (0 : Int), Value.slice none (0 : Nat) (0 : Nat)]) fun (h34 : Heap) =>
                                              ∃ (cs35 : Array Value),
                                                row h34 (Addr.mk b0 (0 : Nat) none) (3 : Nat) = some cs35 ∧ R (Value.tuple #[Value.agg cs35, Value.slice b b_l b_c, Value.bool false]) h34)
                                            (br (decide (n27 > (8192 : Int)))
                                              (storeP (some (3 : Nat)) h26 (Addr.mk b0 (0 : Nat) none)
                                                (Value.agg #[Value.int IntKind.i64 (0 : Int), Value.int IntKind.u64 (0 : Int), Value.slice none (0 : Nat) (0 : Nat)]) fun (h36 : Heap) =>
                                                ∃ (cs37 : Array Value),
                                                  row h36 (Addr.mk b0 (0 : Nat) none) (3 : Nat) = some cs37 ∧ R (Value.tuple #[Value.agg cs37, Value.slice b b_l b_c, Value.bool false]) h36)
                                              (br (decide (n27 > IntKind.wrap IntKind.u64 (IntKind.wrap IntKind.i64 ((↑b_l : Int) - (2 : Int)))))
                                                (storeP (some (3 : Nat)) h26 (Addr.mk b0 (0 : Nat) none)
                                                  (Value.agg #[Value.int IntKind.i64 (0 : Int), Value.int IntKind.u64 (0 : Int), Value.slice none (0 : Nat) (0 : Nat)]) fun (h38 : Heap) =>
                                                  ∃ (cs39 : Array Value),
                                                    row h38 (Addr.mk b0 (0 : Nat) none) (3 : Nat) = some cs39 ∧ R (Value.tuple #[Value.agg cs39, Value.slice b b_l b_c, Value.bool false]) h38)
                                                (sliceP (1 : Nat) b (2 : Int) (IntKind.wrap IntKind.u64 ((2 : Int) + n27)) (↑b_c : Int) b_c fun (p40 : Option Addr) (l41 c42 : Nat) =>
                                                  storeP none h26 (Addr.mk (Addr.block (Addr.mk b2 (0 : Nat) none)) (Addr.off (Addr.mk b2 (0 : Nat) none) + (2 : Nat)) none) (Value.slice p40 l41 c42)
                                                    fun (h43 : Heap) =>
                                                    ∃ (cs44 : Array Value),
                                                      row h43 (Addr.mk b2 (0 : Nat) none) (3 : Nat) = some cs44 ∧
                                                        sliceP (1 : Nat) b (IntKind.wrap IntKind.u64 ((2 : Int) + n27)) (↑b_l : Int) (↑b_c : Int) b_c fun (p45 : Option Addr) (l46 c47 : Nat) =>
                                                          storeP (some (3 : Nat)) h43 (Addr.mk b0 (0 : Nat) none) (Value.agg cs44) fun (h48 : Heap) =>
                                                            ∃ (cs49 : Array Value),
                                                              row h48 (Addr.mk b0 (0 : Nat) none) (3 : Nat) = some cs49 ∧
                                                                R (Value.tuple #[Value.agg cs49, Value.slice p45 l46 c47, Value.bool true]) h48))))
                                          (storeP none h26 (Addr.mk (Addr.block (Addr.mk b2 (0 : Nat) none)) (Addr.off (Addr.mk b2 (0 : Nat) none) + (1 : Nat)) none) (Value.int IntKind.u64 n27)
                                            fun (h50 : Heap) =>
                                            ∃ (cs51 : Array Value),
                                              row h50 (Addr.mk b2 (0 : Nat) none) (3 : Nat) = some cs51 ∧
                                                sliceP (1 : Nat) b (2 : Int) (↑b_l : Int) (↑b_c : Int) b_c fun (p52 : Option Addr) (l53 c54 : Nat) =>
                                                  storeP (some (3 : Nat)) h50 (Addr.mk b0 (0 : Nat) none) (Value.agg cs51) fun (h55 : Heap) =>
                                                    ∃ (cs56 : Array Value),
                                                      row h55 (Addr.mk b0 (0 : Nat) none) (3 : Nat) = some cs56 ∧ R (Value.tuple #[Value.agg cs56, Value.slice p52 l53 c54, Value.bool true]) h55))))
                                    (br (kind == (7 : Int))
                                      (br (decide (n27 > most))
                                        (storeP (some (3 : Nat)) h26 (Addr.mk b0 (0 : Nat) none)
                                          (Value.agg #[Value.int IntKind.i64 (0 : Int), Value.int IntKind.u64 (0 : Int), Value.slice none (0 : Nat) (0 : Nat)]) fun (h57 : Heap) =>
                                          ∃ (cs58 : Array Value),
                                            row h57 (Addr.mk b0 (0 : Nat) none) (3 : Nat) = some cs58 ∧ R (Value.tuple #[Value.agg cs58, Value.slice b b_l b_c, Value.bool false]) h57)
                                        (br (decide (n27 > (8192 : Int)))
                                          (storeP (some (3 : Nat)) h26 (Addr.mk b0 (0 : Nat) none)
                                            (Value.agg #[Value.int IntKind.i64 (0 : Int), Value.int IntKind.u64 (0 : Int), Value.slice none (0 : Nat) (0 : Nat)]) fun (h59 : Heap) =>
                                            ∃ (cs60 : Array Value),
                                              row h59 (Addr.mk b0 (0 : Nat) none) (3 : Nat) = some cs60 ∧ R (Value.tuple #[Value.agg cs60, Value.slice b b_l b_c, Value.bool false]) h59)
                                          (br (decide (n27 > IntKind.wrap IntKind.u64 (IntKind.wrap IntKind.i64 ((↑b_l : Int) - (2 : Int)))))
                                            (storeP (some (3 : Nat)) h26 (Addr.mk b0 (0 : Nat) none)
                                              (Value.agg #[Value.int IntKind.i64 (0 : Int), Value.int IntKind.u64 (0 : Int), Value.slice none (0 : Nat) (0 : Nat)]) fun (h61 : Heap) =>
                                              ∃ (cs62 : Array Value),
                                                row h61 (Addr.mk b0 (0 : Nat) none) (3 : Nat) = some cs62 ∧ R (Value.tuple #[Value.agg cs62, Value.slice b b_l b_c, Value.bool false]) h61)
                                            (sliceP (1 : Nat) b (2 : Int) (IntKind.wrap IntKind.u64 ((2 : Int) + n27)) (↑b_c : Int) b_c fun (p63 : Option Addr) (l64 c65 : Nat) =>
                                              storeP none h26 (Addr.mk (Addr.block (Addr.mk b2 (0 : Nat) none)) (Addr.off (Addr.mk b2 (0 : Nat) none) + (2 : Nat)) none) (Value.slice p63 l64 c65)
                                                fun (h66 : Heap) =>
                                                ∃ (cs67 : Array Value),
                                                  row h66 (Addr.mk b2 (0 : Nat) none) (3 : Nat) = some cs67 ∧
                                                    sliceP (1 : Nat) b (IntKind.wrap IntKind.u64 ((2 : Int) + n27)) (↑b_l : Int) (↑b_c : Int) b_c fun (p68 : Option Addr) (l69 c70 : Nat) =>
                                                      storeP (some (3 : Nat)) h66 (Addr.mk b0 (0 : Nat) none) (Value.agg cs67) fun (h71 : Heap) =>
                                                        ∃ (cs72 : Array Value),
                                                          row h71 (Addr.mk b0 (0 : Nat) none) (3 : Nat) = some cs72 ∧
                                                            R (Value.tuple #[Value.agg cs72, Value.slice p68 l69 c70, Value.bool true]) h71))))
                                      (storeP none h26 (Addr.mk (Addr.block (Addr.mk b2 (0 : Nat) none)) (Addr.off (Addr.mk b2 (0 : Nat) none) + (1 : Nat)) none) (Value.int IntKind.u64 n27)
                                        fun (h73 : Heap) =>
                                        ∃ (cs74 : Array Value),
                                          row h73 (Addr.mk b2 (0 : Nat) none) (3 : Nat) = some cs74 ∧
                                            sliceP (1 : Nat) b (2 : Int) (↑b_l : Int) (↑b_c : Int) b_c fun (p75 : Option Addr) (l76 c77 : Nat) =>
                                              storeP (some (3 : Nat)) h73 (Addr.mk b0 (0 : Nat) none) (Value.agg cs74) fun (h78 : Heap) =>
                                                ∃ (cs79 : Array Value),
                                                  row h78 (Addr.mk b0 (0 : Nat) none) (3 : Nat) = some cs79 ∧ R (Value.tuple #[Value.agg cs79, Value.slice p75 l76 c77, Value.bool true]) h78))))
                                (br (kind == (8 : Int))
                                  (br (decide (n27 > most))
                                    (storeP (some (3 : Nat)) h26 (Addr.mk b0 (0 : Nat) none)
                                      (Value.agg #[Value.int IntKind.i64 (0 : Int), Value.int IntKind.u64 (0 : Int), Value.slice none (0 : Nat) (0 : Nat)]) fun (h80 : Heap) =>
                                      ∃ (cs81 : Array Value),
                                        row h80 (Addr.mk b0 (0 : Nat) none) (3 : Nat) = some cs81 ∧ R (Value.tuple #[Value.agg cs81, Value.slice b b_l b_c, Value.bool false]) h80)
                                    (br (decide (n27 > (4096 : Int)))
                                      (storeP (some (3 : Nat)) h26 (Addr.mk b0 (0 : Nat) none)
                                        (Value.agg #[Value.int IntKind.i64 (0 : Int), Value.int IntKind.u64 (0 : Int), Value.slice none (0 : Nat) (0 : Nat)]) fun (h82 : Heap) =>
                                        ∃ (cs83 : Array Value),
                                          row h82 (Addr.mk b0 (0 : Nat) none) (3 : Nat) = some cs83 ∧ R (Value.tuple #[Value.agg cs83, Value.slice b b_l b_c, Value.bool false]) h82)
                                      (br (kind == (7 : Int))
                                        (br (decide (n27 > most))
                                          (storeP (some (3 : Nat)) h26 (Addr.mk b0 (0 : Nat) none)
                                            (Value.agg #[Value.int IntKind.i64 (0 : Int), Value.int IntKind.u64 (0 : Int), Value.slice none (0 : Nat) (0 : Nat)]) fun (h84 : Heap) =>
                                            ∃ (cs85 : Array Value),
                                              row h84 (Addr.mk b0 (0 : Nat) none) (3 : Nat) = some cs85 ∧ R (Value.tuple #[Value.agg cs85, Value.slice b b_l b_c, Value.bool false]) h84)
                                          (br (decide (n27 > (8192 : Int)))
                                            (storeP (some (3 : Nat)) h26 (Addr.mk b0 (0 : Nat) none)
                                              (Value.agg #[Value.int IntKind.i64 (0 : Int), Value.int IntKind.u64 (0 : Int), Value.slice none (0 : Nat) (0 : Nat)]) fun (h86 : Heap) =>
                                              ∃ (cs87 : Array Value),
                                                row h86 (Addr.mk b0 (0 : Nat) none) (3 : Nat) = some cs87 ∧ R (Value.tuple #[Value.agg cs87, Value.slice b b_l b_c, Value.bool false]) h86)
                                            (br (decide (n27 > IntKind.wrap IntKind.u64 (IntKind.wrap IntKind.i64 ((↑b_l : Int) - (2 : Int)))))
                                              (storeP (some (3 : Nat)) h26 (Addr.mk b0 (0 : Nat) none)
                                                (Value.agg #[Value.int IntKind.i64 (0 : Int), Value.int IntKind.u64 (0 : Int), Value.slice none (0 : Nat) (0 : Nat)]) fun (h88 : Heap) =>
                                                ∃ (cs89 : Array Value),
                                                  row h88 (Addr.mk b0 (0 : Nat) none) (3 : Nat) = some cs89 ∧ R (Value.tuple #[Value.agg cs89, Value.slice b b_l b_c, Value.bool false]) h88)
                                              (sliceP (1 : Nat) b (2 : Int) (IntKind.wrap IntKind.u64 ((2 : Int) + n27)) (↑b_c : Int) b_c fun (p90 : Option Addr) (l91 c92 : Nat) =>
                                                storeP none h26 (Addr.mk (Addr.block (Addr.mk b2 (0 : Nat) none)) (Addr.off (Addr.mk b2 (0 : Nat) none) + (2 : Nat)) none) (Value.slice p90 l91 c92)
                                                  fun (h93 : Heap) =>
                                                  ∃ (cs94 : Array Value),
                                                    row h93 (Addr.mk b2 (0 : Nat) none) (3 : Nat) = some cs94 ∧
                                                      sliceP (1 : Nat) b (IntKind.wrap IntKind.u64 ((2 : Int) + n27)) (↑b_l : Int) (↑b_c : Int) b_c fun (p95 : Option Addr) (l96 c97 : Nat) =>
                                                        storeP (some (3 : Nat)) h93 (Addr.mk b0 (0 : Nat) none) (Value.agg cs94) fun (h98 : Heap) =>
                                                          ∃ (cs99 : Array Value),
                                                            row h98 (Addr.mk b0 (0 : Nat) none) (3 : Nat) = some cs99 ∧
                                                              R (Value.tuple #[Value.agg cs99, Value.slice p95 l96 c97, Value.bool true]) h98))))
                                        (storeP none h26 (Addr.mk (Addr.block (Addr.mk b2 (0 : Nat) none)) (Addr.off (Addr.mk b2 (0 : Nat) none) + (1 : Nat)) none) (Value.int IntKind.u64 n27)
                                          fun (h100 : Heap) =>
                                          ∃ (cs101 : Array Value),
                                            row h100 (Addr.mk b2 (0 : Nat) none) (3 : Nat) = some cs101 ∧
                                              sliceP (1 : Nat) b (2 : Int) (↑b_l : Int) (↑b_c : Int) b_c fun (p102 : Option Addr) (l103 c104 : Nat) =>
                                                storeP (some (3 : Nat)) h100 (Addr.mk b0 (0 : Nat) none) (Value.agg cs101) fun (h105 : Heap) =>
                                                  ∃ (cs106 : Array Value),
                                                    row h105 (Addr.mk b0 (0 : Nat) none) (3 : Nat) = some cs106 ∧
                                                      R (Value.tuple #[Value.agg cs106, Value.slice p102 l103 c104, Value.bool true]) h105))))
                                  (br (kind == (7 : Int))
                                    (br (decide (n27 > most))
                                      (storeP (some (3 : Nat)) h26 (Addr.mk b0 (0 : Nat) none)
                                        (Value.agg #[Value.int IntKind.i64 (0 : Int), Value.int IntKind.u64 (0 : Int), Value.slice none (0 : Nat) (0 : Nat)]) fun (h107 : Heap) =>
                                        ∃ (cs108 : Array Value),
                                          row h107 (Addr.mk b0 (0 : Nat) none) (3 : Nat) = some cs108 ∧ R (Value.tuple #[Value.agg cs108, Value.slice b b_l b_c, Value.bool false]) h107)
                                      (br (decide (n27 > (8192 : Int)))
                                        (storeP (some (3 : Nat)) h26 (Addr.mk b0 (0 : Nat) none)
                                          (Value.agg #[Value.int IntKind.i64 (0 : Int), Value.int IntKind.u64 (0 : Int), Value.slice none (0 : Nat) (0 : Nat)]) fun (h109 : Heap) =>
                                          ∃ (cs110 : Array Value),
                                            row h109 (Addr.mk b0 (0 : Nat) none) (3 : Nat) = some cs110 ∧ R (Value.tuple #[Value.agg cs110, Value.slice b b_l b_c, Value.bool false]) h109)
                                        (br (decide (n27 > IntKind.wrap IntKind.u64 (IntKind.wrap IntKind.i64 ((↑b_l : Int) - (2 : Int)))))
                                          (storeP (some (3 : Nat)) h26 (Addr.mk b0 (0 : Nat) none)
                                            (Value.agg #[Value.int IntKind.i64 (0 : Int), Value.int IntKind.u64 (0 : Int), Value.slice none (0 : Nat) (0 : Nat)]) fun (h111 : Heap) =>
                                            ∃ (cs112 : Array Value),
                                              row h111 (Addr.mk b0 (0 : Nat) none) (3 : Nat) = some cs112 ∧ R (Value.tuple #[Value.agg cs112, Value.slice b b_l b_c, Value.bool false]) h111)
                                          (sliceP (1 : Nat) b (2 : Int) (IntKind.wrap IntKind.u64 ((2 : Int) + n27)) (↑b_c : Int) b_c fun (p113 : Option Addr) (l114 c115 : Nat) =>
                                            storeP none h26 (Addr.mk (Addr.block (Addr.mk b2 (0 : Nat) none)) (Addr.off (Addr.mk b2 (0 : Nat) none) + (2 : Nat)) none) (Value.slice p113 l114 c115)
                                              fun (h116 : Heap) =>
                                              ∃ (cs117 : Array Value),
                                                row h116 (Addr.mk b2 (0 : Nat) none) (3 : Nat) = some cs117 ∧
                                                  sliceP (1 : Nat) b (IntKind.wrap IntKind.u64 ((2 : Int) + n27)) (↑b_l : Int) (↑b_c : Int) b_c fun (p118 : Option Addr) (l119 c120 : Nat) =>
                                                    storeP (some (3 : Nat)) h116 (Addr.mk b0 (0 : Nat) none) (Value.agg cs117) fun (h121 : Heap) =>
                                                      ∃ (cs122 : Array Value),
                                                        row h121 (Addr.mk b0 (0 : Nat) none) (3 : Nat) = some cs122 ∧
                                                          R (Value.tuple #[Value.agg cs122, Value.slice p118 l119 c120, Value.bool true]) h121))))
                                    (storeP none h26 (Addr.mk (Addr.block (Addr.mk b2 (0 : Nat) none)) (Addr.off (Addr.mk b2 (0 : Nat) none) + (1 : Nat)) none) (Value.int IntKind.u64 n27)
                                      fun (h123 : Heap) =>
                                      ∃ (cs124 : Array Value),
                                        row h123 (Addr.mk b2 (0 : Nat) none) (3 : Nat) = some cs124 ∧
                                          sliceP (1 : Nat) b (2 : Int) (↑b_l : Int) (↑b_c : Int) b_c fun (p125 : Option Addr) (l126 c127 : Nat) =>
                                            storeP (some (3 : Nat)) h123 (Addr.mk b0 (0 : Nat) none) (Value.agg cs124) fun (h128 : Heap) =>
                                              ∃ (cs129 : Array Value),
                                                row h128 (Addr.mk b0 (0 : Nat) none) (3 : Nat) = some cs129 ∧ R (Value.tuple #[Value.agg cs129, Value.slice p125 l126 c127, Value.bool true]) h128)))))
                  (br (decide ((↑b_l : Int) < n19))
                    (storeP (some (3 : Nat)) h18 (Addr.mk b0 (0 : Nat) none) (Value.agg #[Value.int IntKind.i64 (0 : Int), Value.int IntKind.u64 (0 : Int), Value.slice none (0 : Nat) (0 : Nat)])
                      fun (h130 : Heap) =>
                      ∃ (cs131 : Array Value), row h130 (Addr.mk b0 (0 : Nat) none) (3 : Nat) = some cs131 ∧ R (Value.tuple #[Value.agg cs131, Value.slice b b_l b_c, Value.bool false]) h130)
                    (sliceP (1 : Nat) b (0 : Int) n19 (↑b_c : Int) b_c fun (p132 : Option Addr) (l133 c134 : Nat) =>
                      CallsH Try.prog (118 : Nat) #[Value.slice p132 l133 c134] h18 fun (v135 : Value) (h136 : Heap) =>
                        Ext h18 h136 ∧
                          ∃ (n137 : Int),
                            v135 = Value.int IntKind.u64 n137 ∧
                              br (kind == (5 : Int))
                                (br (decide (n137 > (1 : Int)))
                                  (storeP (some (3 : Nat)) h136 (Addr.mk b0 (0 : Nat) none)
                                    (Value.agg #[Value.int IntKind.i64 (0 : Int), Value.int IntKind.u64 (0 : Int), Value.slice none (0 : Nat) (0 : Nat)]) fun (h138 : Heap) =>
                                    ∃ (cs139 : Array Value),
                                      row h138 (Addr.mk b0 (0 : Nat) none) (3 : Nat) = some cs139 ∧ R (Value.tuple #[Value.agg cs139, Value.slice b b_l b_c, Value.bool false]) h138)
                                  (br (kind == (8 : Int))
                                    (br (decide (n137 > most))
                                      (storeP (some (3 : Nat)) h136 (Addr.mk b0 (0 : Nat) none)
                                        (Value.agg #[Value.int IntKind.i64 (0 : Int), Value.int IntKind.u64 (0 : Int), Value.slice none (0 : Nat) (0 : Nat)]) fun (h140 : Heap) =>
                                        ∃ (cs141 : Array Value),
                                          row h140 (Addr.mk b0 (0 : Nat) none) (3 : Nat) = some cs141 ∧ R (Value.tuple #[Value.agg cs141, Value.slice b b_l b_c, Value.bool false]) h140)
                                      (br (decide (n137 > (4096 : Int)))
                                        (storeP (some (3 : Nat)) h136 (Addr.mk b0 (0 : Nat) none)
                                          (Value.agg #[Value.int IntKind.i64 (0 : Int), Value.int IntKind.u64 (0 : Int), Value.slice none (0 : Nat) (0 : Nat)]) fun (h142 : Heap) =>
                                          ∃ (cs143 : Array Value),
                                            row h142 (Addr.mk b0 (0 : Nat) none) (3 : Nat) = some cs143 ∧ R (Value.tuple #[Value.agg cs143, Value.slice b b_l b_c, Value.bool false]) h142)
                                        (br (kind == (7 : Int))
                                          (br (decide (n137 > most))
                                            (storeP (some (3 : Nat)) h136 (Addr.mk b0 (0 : Nat) none)
                                              (Value.agg #[Value.int IntKind.i64 (0 : Int), Value.int IntKind.u64 (0 : Int), Value.slice none (0 : Nat) (0 : Nat)]) fun (h144 : Heap) =>
                                              ∃ (cs145 : Array Value),
                                                row h144 (Addr.mk b0 (0 : Nat) none) (3 : Nat) = some cs145 ∧ R (Value.tuple #[Value.agg cs145, Value.slice b b_l b_c, Value.bool false]) h144)
                                            (br (decide (n137 > (8192 : Int)))
                                              (storeP (some (3 : Nat)) h136 (Addr.mk b0 (0 : Nat) none)
                                                (Value.agg #[Value.int IntKind.i64 (0 : Int), Value.int IntKind.u64 (0 : Int), Value.slice none (0 : Nat) (0 : Nat)]) fun (h146 : Heap) =>
                                                ∃ (cs147 : Array Value),
                                                  row h146 (Addr.mk b0 (0 : Nat) none) (3 : Nat) = some cs147 ∧ R (Value.tuple #[Value.agg cs147, Value.slice b b_l b_c, Value.bool false]) h146)
                                              (br (decide (n137 > IntKind.wrap IntKind.u64 (IntKind.wrap IntKind.i64 ((↑b_l : Int) - (2 : Int)))))
                                                (storeP (some (3 : Nat)) h136 (Addr.mk b0 (0 : Nat) none)
                                                  (Value.agg #[Value.int IntKind.i64 (0 : Int), Value.int IntKind.u64 (0 : Int), Value.slice none (0 : Nat) (0 : Nat)]) fun (h148 : Heap) =>
                                                  ∃ (cs149 : Array Value),
                                                    row h148 (Addr.mk b0 (0 : Nat) none) (3 : Nat) = some cs149 ∧ R (Value.tuple #[Value.agg cs149, Value.slice b b_l b_c, Value.bool false]) h148)
                                                (sliceP (1 : Nat) b (2 : Int) (IntKind.wrap IntKind.u64 ((2 : Int) + n137)) (↑b_c : Int) b_c fun (p150 : Option Addr) (l151 c152 : Nat) =>
                                                  storeP none h136 (Addr.mk (Addr.block (Addr.mk b2 (0 : Nat) none)) (Addr.off (Addr.mk b2 (0 : Nat) none) + (2 : Nat)) none)
                                                    (Value.slice p150 l151 c152) fun (h153 : Heap) =>
                                                    ∃ (cs154 : Array Value),
                                                      row h153 (Addr.mk b2 (0 : Nat) none) (3 : Nat) = some cs154 ∧
                                                        sliceP (1 : Nat) b (IntKind.wrap IntKind.u64 ((2 : Int) + n137)) (↑b_l : Int) (↑b_c : Int) b_c fun (p155 : Option Addr) (l156 c157 : Nat) =>
                                                          storeP (some (3 : Nat)) h153 (Addr.mk b0 (0 : Nat) none) (Value.agg cs154) fun (h158 : Heap) =>
                                                            ∃ (cs159 : Array Value),
                                                              row h158 (Addr.mk b0 (0 : Nat) none) (3 : Nat) = some cs159 ∧
                                                                R (Value.tuple #[Value.agg cs159, Value.slice p155 l156 c157, Value.bool true]) h158))))
                                          (storeP none h136 (Addr.mk (Addr.block (Addr.mk b2 (0 : Nat) none)) (Addr.off (Addr.mk b2 (0 : Nat) none) + (1 : Nat)) none) (Value.int IntKind.u64 n137)
                                            fun (h160 : Heap) =>
                                            ∃ (cs161 : Array Value),
                                              row h160 (Addr.mk b2 (0 : Nat) none) (3 : Nat) = some cs161 ∧
                                                sliceP (1 : Nat) b n19 (↑b_l : Int) (↑b_c : Int) b_c fun (p162 : Option Addr) (l163 c164 : Nat) =>
                                                  storeP (some (3 : Nat)) h160 (Addr.mk b0 (0 : Nat) none) (Value.agg cs161) fun (h165 : Heap) =>
                                                    ∃ (cs166 : Array Value),
                                                      row h165 (Addr.mk b0 (0 : Nat) none) (3 : Nat) = some cs166 ∧
                                                        R (Value.tuple #[Value.agg cs166, Value.slice p162 l163 c164, Value.bool true]) h165))))
                                    (br (kind == (7 : Int))
                                      (br (decide (n137 > most))
                                        (storeP (some (3 : Nat)) h136 (Addr.mk b0 (0 : Nat) none)
                                          (Value.agg #[Value.int IntKind.i64 (0 : Int), Value.int IntKind.u64 (0 : Int), Value.slice none (0 : Nat) (0 : Nat)]) fun (h167 : Heap) =>
                                          ∃ (cs168 : Array Value),
                                            row h167 (Addr.mk b0 (0 : Nat) none) (3 : Nat) = some cs168 ∧ R (Value.tuple #[Value.agg cs168, Value.slice b b_l b_c, Value.bool false]) h167)
                                        (br (decide (n137 > (8192 : Int)))
                                          (storeP (some (3 : Nat)) h136 (Addr.mk b0 (0 : Nat) none)
                                            (Value.agg #[Value.int IntKind.i64 (0 : Int), Value.int IntKind.u64 (0 : Int), Value.slice none (0 : Nat) (0 : Nat)]) fun (h169 : Heap) =>
                                            ∃ (cs170 : Array Value),
                                              row h169 (Addr.mk b0 (0 : Nat) none) (3 : Nat) = some cs170 ∧ R (Value.tuple #[Value.agg cs170, Value.slice b b_l b_c, Value.bool false]) h169)
                                          (br (decide (n137 > IntKind.wrap IntKind.u64 (IntKind.wrap IntKind.i64 ((↑b_l : Int) - (2 : Int)))))
                                            (storeP (some (3 : Nat)) h136 (Addr.mk b0 (0 : Nat) none)
                                              (Value.agg #[Value.int IntKind.i64 (0 : Int), Value.int IntKind.u64 (0 : Int), Value.slice none (0 : Nat) (0 : Nat)]) fun (h171 : Heap) =>
                                              ∃ (cs172 : Array Value),
                                                row h171 (Addr.mk b0 (0 : Nat) none) (3 : Nat) = some cs172 ∧ R (Value.tuple #[Value.agg cs172, Value.slice b b_l b_c, Value.bool false]) h171)
                                            (sliceP (1 : Nat) b (2 : Int) (IntKind.wrap IntKind.u64 ((2 : Int) + n137)) (↑b_c : Int) b_c fun (p173 : Option Addr) (l174 c175 : Nat) =>
                                              storeP none h136 (Addr.mk (Addr.block (Addr.mk b2 (0 : Nat) none)) (Addr.off (Addr.mk b2 (0 : Nat) none) + (2 : Nat)) none) (Value.slice p173 l174 c175)
                                                fun (h176 : Heap) =>
                                                ∃ (cs177 : Array Value),
                                                  row h176 (Addr.mk b2 (0 : Nat) none) (3 : Nat) = some cs177 ∧
                                                    sliceP (1 : Nat) b (IntKind.wrap IntKind.u64 ((2 : Int) + n137)) (↑b_l : Int) (↑b_c : Int) b_c fun (p178 : Option Addr) (l179 c180 : Nat) =>
                                                      storeP (some (3 : Nat)) h176 (Addr.mk b0 (0 : Nat) none) (Value.agg cs177) fun (h181 : Heap) =>
                                                        ∃ (cs182 : Array Value),
                                                          row h181 (Addr.mk b0 (0 : Nat) none) (3 : Nat) = some cs182 ∧
                                                            R (Value.tuple #[Value.agg cs182, Value.slice p178 l179 c180, Value.bool true]) h181))))
                                      (storeP none h136 (Addr.mk (Addr.block (Addr.mk b2 (0 : Nat) none)) (Addr.off (Addr.mk b2 (0 : Nat) none) + (1 : Nat)) none) (Value.int IntKind.u64 n137)
                                        fun (h183 : Heap) =>
                                        ∃ (cs184 : Array Value),
                                          row h183 (Addr.mk b2 (0 : Nat) none) (3 : Nat) = some cs184 ∧
                                            sliceP (1 : Nat) b n19 (↑b_l : Int) (↑b_c : Int) b_c fun (p185 : Option Addr) (l186 c187 : Nat) =>
                                              storeP (some (3 : Nat)) h183 (Addr.mk b0 (0 : Nat) none) (Value.agg cs184) fun (h188 : Heap) =>
                                                ∃ (cs189 : Array Value),
                                                  row h188 (Addr.mk b0 (0 : Nat) none) (3 : Nat) = some cs189 ∧ R (Value.tuple #[Value.agg cs189, Value.slice p185 l186 c187, Value.bool true]) h188))))
                                (br (kind == (8 : Int))
                                  (br (decide (n137 > most))
                                    (storeP (some (3 : Nat)) h136 (Addr.mk b0 (0 : Nat) none)
                                      (Value.agg #[Value.int IntKind.i64 (0 : Int), Value.int IntKind.u64 (0 : Int), Value.slice none (0 : Nat) (0 : Nat)]) fun (h190 : Heap) =>
                                      ∃ (cs191 : Array Value),
                                        row h190 (Addr.mk b0 (0 : Nat) none) (3 : Nat) = some cs191 ∧ R (Value.tuple #[Value.agg cs191, Value.slice b b_l b_c, Value.bool false]) h190)
                                    (br (decide (n137 > (4096 : Int)))
                                      (storeP (some (3 : Nat)) h136 (Addr.mk b0 (0 : Nat) none)
                                        (Value.agg #[Value.int IntKind.i64 (0 : Int), Value.int IntKind.u64 (0 : Int), Value.slice none (0 : Nat) (0 : Nat)]) fun (h192 : Heap) =>
                                        ∃ (cs193 : Array Value),
                                          row h192 (Addr.mk b0 (0 : Nat) none) (3 : Nat) = some cs193 ∧ R (Value.tuple #[Value.agg cs193, Value.slice b b_l b_c, Value.bool false]) h192)
                                      (br (kind == (7 : Int))
                                        (br (decide (n137 > most))
                                          (storeP (some (3 : Nat)) h136 (Addr.mk b0 (0 : Nat) none)
                                            (Value.agg #[Value.int IntKind.i64 (0 : Int), Value.int IntKind.u64 (0 : Int), Value.slice none (0 : Nat) (0 : Nat)]) fun (h194 : Heap) =>
                                            ∃ (cs195 : Array Value),
                                              row h194 (Addr.mk b0 (0 : Nat) none) (3 : Nat) = some cs195 ∧ R (Value.tuple #[Value.agg cs195, Value.slice b b_l b_c, Value.bool false]) h194)
                                          (br (decide (n137 > (8192 : Int)))
                                            (storeP (some (3 : Nat)) h136 (Addr.mk b0 (0 : Nat) none)
                                              (Value.agg #[Value.int IntKind.i64 (0 : Int), Value.int IntKind.u64 (0 : Int), Value.slice none (0 : Nat) (0 : Nat)]) fun (h196 : Heap) =>
                                              ∃ (cs197 : Array Value),
                                                row h196 (Addr.mk b0 (0 : Nat) none) (3 : Nat) = some cs197 ∧ R (Value.tuple #[Value.agg cs197, Value.slice b b_l b_c, Value.bool false]) h196)
                                            (br (decide (n137 > IntKind.wrap IntKind.u64 (IntKind.wrap IntKind.i64 ((↑b_l : Int) - (2 : Int)))))
                                              (storeP (some (3 : Nat)) h136 (Addr.mk b0 (0 : Nat) none)
                                                (Value.agg #[Value.int IntKind.i64 (0 : Int), Value.int IntKind.u64 (0 : Int), Value.slice none (0 : Nat) (0 : Nat)]) fun (h198 : Heap) =>
                                                ∃ (cs199 : Array Value),
                                                  row h198 (Addr.mk b0 (0 : Nat) none) (3 : Nat) = some cs199 ∧ R (Value.tuple #[Value.agg cs199, Value.slice b b_l b_c, Value.bool false]) h198)
                                              (sliceP (1 : Nat) b (2 : Int) (IntKind.wrap IntKind.u64 ((2 : Int) + n137)) (↑b_c : Int) b_c fun (p200 : Option Addr) (l201 c202 : Nat) =>
                                                storeP none h136 (Addr.mk (Addr.block (Addr.mk b2 (0 : Nat) none)) (Addr.off (Addr.mk b2 (0 : Nat) none) + (2 : Nat)) none) (Value.slice p200 l201 c202)
                                                  fun (h203 : Heap) =>
                                                  ∃ (cs204 : Array Value),
                                                    row h203 (Addr.mk b2 (0 : Nat) none) (3 : Nat) = some cs204 ∧
                                                      sliceP (1 : Nat) b (IntKind.wrap IntKind.u64 ((2 : Int) + n137)) (↑b_l : Int) (↑b_c : Int) b_c fun (p205 : Option Addr) (l206 c207 : Nat) =>
                                                        storeP (some (3 : Nat)) h203 (Addr.mk b0 (0 : Nat) none) (Value.agg cs204) fun (h208 : Heap) =>
                                                          ∃ (cs209 : Array Value),
                                                            row h208 (Addr.mk b0 (0 : Nat) none) (3 : Nat) = some cs209 ∧
                                                              R (Value.tuple #[Value.agg cs209, Value.slice p205 l206 c207, Value.bool true]) h208))))
                                        (storeP none h136 (Addr.mk (Addr.block (Addr.mk b2 (0 : Nat) none)) (Addr.off (Addr.mk b2 (0 : Nat) none) + (1 : Nat)) none) (Value.int IntKind.u64 n137)
                                          fun (h210 : Heap) =>
                                          ∃ (cs211 : Array Value),
                                            row h210 (Addr.mk b2 (0 : Nat) none) (3 : Nat) = some cs211 ∧
                                              sliceP (1 : Nat) b n19 (↑b_l : Int) (↑b_c : Int) b_c fun (p212 : Option Addr) (l213 c214 : Nat) =>
                                                storeP (some (3 : Nat)) h210 (Addr.mk b0 (0 : Nat) none) (Value.agg cs211) fun (h215 : Heap) =>
                                                  ∃ (cs216 : Array Value),
                                                    row h215 (Addr.mk b0 (0 : Nat) none) (3 : Nat) = some cs216 ∧
                                                      R (Value.tuple #[Value.agg cs216, Value.slice p212 l213 c214, Value.bool true]) h215))))
                                  (br (kind == (7 : Int))
                                    (br (decide (n137 > most))
                                      (storeP (some (3 : Nat)) h136 (Addr.mk b0 (0 : Nat) none)
                                        (Value.agg #[Value.int IntKind.i64 (0 : Int), Value.int IntKind.u64 (0 : Int), Value.slice none (0 : Nat) (0 : Nat)]) fun (h217 : Heap) =>
                                        ∃ (cs218 : Array Value),
                                          row h217 (Addr.mk b0 (0 : Nat) none) (3 : Nat) = some cs218 ∧ R (Value.tuple #[Value.agg cs218, Value.slice b b_l b_c, Value.bool false]) h217)
                                      (br (decide (n137 > (8192 : Int)))
                                        (storeP (some (3 : Nat)) h136 (Addr.mk b0 (0 : Nat) none)
                                          (Value.agg #[Value.int IntKind.i64 (0 : Int), Value.int IntKind.u64 (0 : Int), Value.slice none (0 : Nat) (0 : Nat)]) fun (h219 : Heap) =>
                                          ∃ (cs220 : Array Value),
                                            row h219 (Addr.mk b0 (0 : Nat) none) (3 : Nat) = some cs220 ∧ R (Value.tuple #[Value.agg cs220, Value.slice b b_l b_c, Value.bool false]) h219)
                                        (br (decide (n137 > IntKind.wrap IntKind.u64 (IntKind.wrap IntKind.i64 ((↑b_l : Int) - (2 : Int)))))
                                          (storeP (some (3 : Nat)) h136 (Addr.mk b0 (0 : Nat) none)
                                            (Value.agg #[Value.int IntKind.i64 (0 : Int), Value.int IntKind.u64 (0 : Int), Value.slice none (0 : Nat) (0 : Nat)]) fun (h221 : Heap) =>
                                            ∃ (cs222 : Array Value),
                                              row h221 (Addr.mk b0 (0 : Nat) none) (3 : Nat) = some cs222 ∧ R (Value.tuple #[Value.agg cs222, Value.slice b b_l b_c, Value.bool false]) h221)
                                          (sliceP (1 : Nat) b (2 : Int) (IntKind.wrap IntKind.u64 ((2 : Int) + n137)) (↑b_c : Int) b_c fun (p223 : Option Addr) (l224 c225 : Nat) =>
                                            storeP none h136 (Addr.mk (Addr.block (Addr.mk b2 (0 : Nat) none)) (Addr.off (Addr.mk b2 (0 : Nat) none) + (2 : Nat)) none) (Value.slice p223 l224 c225)
                                              fun (h226 : Heap) =>
                                              ∃ (cs227 : Array Value),
                                                row h226 (Addr.mk b2 (0 : Nat) none) (3 : Nat) = some cs227 ∧
                                                  sliceP (1 : Nat) b (IntKind.wrap IntKind.u64 ((2 : Int) + n137)) (↑b_l : Int) (↑b_c : Int) b_c fun (p228 : Option Addr) (l229 c230 : Nat) =>
                                                    storeP (some (3 : Nat)) h226 (Addr.mk b0 (0 : Nat) none) (Value.agg cs227) fun (h231 : Heap) =>
                                                      ∃ (cs232 : Array Value),
                                                        row h231 (Addr.mk b0 (0 : Nat) none) (3 : Nat) = some cs232 ∧
                                                          R (Value.tuple #[Value.agg cs232, Value.slice p228 l229 c230, Value.bool true]) h231))))
                                    (storeP none h136 (Addr.mk (Addr.block (Addr.mk b2 (0 : Nat) none)) (Addr.off (Addr.mk b2 (0 : Nat) none) + (1 : Nat)) none) (Value.int IntKind.u64 n137)
                                      fun (h233 : Heap) =>
                                      ∃ (cs234 : Array Value),
                                        row h233 (Addr.mk b2 (0 : Nat) none) (3 : Nat) = some cs234 ∧
                                          sliceP (1 : Nat) b n19 (↑b_l : Int) (↑b_c : Int) b_c fun (p235 : Option Addr) (l236 c237 : Nat) =>
                                            storeP (some (3 : Nat)) h233 (Addr.mk b0 (0 : Nat) none) (Value.agg cs234) fun (h238 : Heap) =>
                                              ∃ (cs239 : Array Value),
                                                row h238 (Addr.mk b0 (0 : Nat) none) (3 : Nat) = some cs239 ∧ R (Value.tuple #[Value.agg cs239, Value.slice p235 l236 c237, Value.bool true]) h238))))))
theorem C59 (b : Option Addr) (b_l : Nat) (b_c : Nat) (kind : Int) (most : Int) {h : Heap} {R : Value → Heap → Prop} (H : F59 b b_l b_c kind most h R) : CallsH Go.Proofs.Try.prog 59 [(.slice b b_l b_c), (.int .i64 kind), (.int .u64 most)].toArray h R :=
  fn_sound (A := A59) (Eq.mp (by kernel_rfl : F59 b b_l b_c kind most h R = fnVc Go.Proofs.Try.prog A59 59 [(.slice b b_l b_c), (.int .i64 kind), (.int .u64 most)] h R) H)

/- (*rolodex/wire.Reader).Fails -/
def A60 : Ann := { qs := [34, 35, 36, 38, 59, 63, 106, 118, 160, 102, 31, 32, 29, 60, 61, 62] }
def F60 (r : Option Addr) (h : Heap) (R : Value → Heap → Prop) : Prop :=
  br (Option.isNone r) (R (Value.bool true) h) (deref r fun (a0 : Addr) => ∃ (t1 : Bool), cell h (Addr.add a0 (1 : Nat)) = some (Value.bool t1) ∧ R (Value.bool t1) h)
theorem C60 (r : Option Addr) {h : Heap} {R : Value → Heap → Prop} (H : F60 r h R) : CallsH Go.Proofs.Try.prog 60 [(.pointer r)].toArray h R :=
  fn_sound (A := A60) (Eq.mp (by kernel_rfl : F60 r h R = fnVc Go.Proofs.Try.prog A60 60 [(.pointer r)] h R) H)

/- (*rolodex/wire.Reader).Left -/
def A61 : Ann := { qs := [34, 35, 36, 38, 59, 63, 106, 118, 160, 102, 31, 32, 29, 60, 61, 62] }
def F61 (r : Option Addr) (h : Heap) (R : Value → Heap → Prop) : Prop :=
  br (Option.isNone r) (R (Value.int IntKind.i64 (0 : Int)) h)
  (deref r fun (a0 : Addr) => ∃ (p1 : Option Addr), ∃ (l2 : Nat), ∃ (c3 : Nat), cell h (Addr.add a0 (0 : Nat)) = some (Value.slice p1 l2 c3) ∧ R (Value.int IntKind.i64 (↑l2 : Int)) h)
theorem C61 (r : Option Addr) {h : Heap} {R : Value → Heap → Prop} (H : F61 r h R) : CallsH Go.Proofs.Try.prog 61 [(.pointer r)].toArray h R :=
  fn_sound (A := A61) (Eq.mp (by kernel_rfl : F61 r h R = fnVc Go.Proofs.Try.prog A61 61 [(.pointer r)] h R) H)

/- (*rolodex/wire.Reader).Done -/
def A62 : Ann := { qs := [34, 35, 36, 38, 59, 63, 106, 118, 160, 102, 31, 32, 29, 60, 61, 62] }
def F62 (r : Option Addr) (h : Heap) (R : Value → Heap → Prop) : Prop :=
  CallsH Try.prog (60 : Nat) #[Value.pointer r] h fun (v0 : Value) (h1 : Heap) =>
  Ext h h1 ∧
    ∃ (t2 : Bool),
      v0 = Value.bool t2 ∧
        br (!t2) (CallsH Try.prog (61 : Nat) #[Value.pointer r] h1 fun (v3 : Value) (h4 : Heap) => Ext h1 h4 ∧ ∃ (n5 : Int), v3 = Value.int IntKind.i64 n5 ∧ R (Value.bool (n5 == (0 : Int))) h4)
          (R (Value.bool false) h1)
theorem C62 (r : Option Addr) {h : Heap} {R : Value → Heap → Prop} (H : F62 r h R) : CallsH Go.Proofs.Try.prog 62 [(.pointer r)].toArray h R :=
  fn_sound (A := A62) (Eq.mp (by kernel_rfl : F62 r h R = fnVc Go.Proofs.Try.prog A62 62 [(.pointer r)] h R) H)

/- rolodex/rolodexref01.Size -/
def A63 : Ann := { qs := [34, 35, 36, 38, 59, 63, 106, 118, 160, 102, 31, 32, 29, 60, 61, 62] }
def F63 (kind : Int) (h : Heap) (R : Value → Heap → Prop) : Prop :=
  br (kind == (1 : Int)) (R (Value.int IntKind.i64 (1 : Int)) h)
  (br (kind == (5 : Int)) (R (Value.int IntKind.i64 (1 : Int)) h)
    (br (kind == (2 : Int)) (R (Value.int IntKind.i64 (2 : Int)) h)
      (br (kind == (8 : Int)) (R (Value.int IntKind.i64 (2 : Int)) h)
        (br (kind == (3 : Int)) (R (Value.int IntKind.i64 (4 : Int)) h) (br (kind == (4 : Int)) (R (Value.int IntKind.i64 (8 : Int)) h) (R (Value.int IntKind.i64 (0 : Int)) h))))))
theorem C63 (kind : Int) {h : Heap} {R : Value → Heap → Prop} (H : F63 kind h R) : CallsH Go.Proofs.Try.prog 63 [(.int .i64 kind)].toArray h R :=
  fn_sound (A := A63) (Eq.mp (by kernel_rfl : F63 kind h R = fnVc Go.Proofs.Try.prog A63 63 [(.int .i64 kind)] h R) H)

/- (*rolodex/wire.Writer).Flag -/
def A101 : Ann := { qs := [34, 35, 36, 38, 59, 63, 106, 118, 160, 102, 31, 32, 29, 60, 61, 62] }
def F101 (w : Option Addr) (b : Bool) (h : Heap) (R : Value → Heap → Prop) : Prop :=
  br b (CallsH Try.prog (108 : Nat) #[Value.pointer w, Value.int IntKind.u64 (1 : Int), Value.int IntKind.i64 (1 : Int)] h fun (v0 : Value) (h1 : Heap) => v0 = Value.tuple #[] ∧ R (Value.tuple #[]) h1)
  (CallsH Try.prog (108 : Nat) #[Value.pointer w, Value.int IntKind.u64 (0 : Int), Value.int IntKind.i64 (1 : Int)] h fun (v2 : Value) (h3 : Heap) => v2 = Value.tuple #[] ∧ R (Value.tuple #[]) h3)
theorem C101 (w : Option Addr) (b : Bool) {h : Heap} {R : Value → Heap → Prop} (H : F101 w b h R) : CallsH Go.Proofs.Try.prog 101 [(.pointer w), (.bool b)].toArray h R :=
  fn_sound (A := A101) (Eq.mp (by kernel_rfl : F101 w b h R = fnVc Go.Proofs.Try.prog A101 101 [(.pointer w), (.bool b)] h R) H)

/- slices.Clone[[]byte,byte] -/
def A102 : Ann := { qs := [34, 35, 36, 38, 59, 63, 106, 118, 160, 102, 31, 32, 29, 60, 61, 62] }
def F102 (s : Option Addr) (s_l : Nat) (s_c : Nat) (h : Heap) (R : Value → Heap → Prop) : Prop :=
  br (Option.isNone s) (R (Value.slice none (0 : Nat) (0 : Nat)) h)
  (newBlk h (5 : Nat) #[] fun (b0 : Nat) (h1 : Heap) =>
    appendP (5 : Nat) (1 : Nat) (1 : Nat) #[Value.int IntKind.u8 (0 : Int)] (some (Addr.mk b0 (0 : Nat) none)) (0 : Nat) (0 : Nat) s s_l h1 fun (p2 : Option Addr) (l3 c4 : Nat) (h5 : Heap) =>
      R (Value.slice p2 l3 c4) h5)
theorem C102 (s : Option Addr) (s_l : Nat) (s_c : Nat) {h : Heap} {R : Value → Heap → Prop} (H : F102 s s_l s_c h R) : CallsH Go.Proofs.Try.prog 102 [(.slice s s_l s_c)].toArray h R :=
  fn_sound (A := A102) (Eq.mp (by kernel_rfl : F102 s s_l s_c h R = fnVc Go.Proofs.Try.prog A102 102 [(.slice s s_l s_c)] h R) H)

/- (*rolodex/wire.Reader).takes -/
def A103 : Ann := { qs := [34, 35, 36, 38, 59, 63, 106, 118, 160, 102, 31, 32, 29, 60, 61, 62] }
def F103 (r : Option Addr) (n : Int) (h : Heap) (R : Value → Heap → Prop) : Prop :=
  br (Option.isNone r) (R (Value.slice none (0 : Nat) (0 : Nat)) h)
  (deref r fun (a0 : Addr) =>
    ∃ (t1 : Bool),
      cell h (Addr.add a0 (1 : Nat)) = some (Value.bool t1) ∧
        br t1 (R (Value.slice none (0 : Nat) (0 : Nat)) h)
          (br (decide (n < (0 : Int)))
            (deref r fun (a2 : Addr) => storeP none h (Addr.mk (Addr.block a2) (Addr.off a2 + (1 : Nat)) none) (Value.bool true) fun (h3 : Heap) => R (Value.slice none (0 : Nat) (0 : Nat)) h3)
            (deref r fun (a4 : Addr) =>
              ∃ (p5 : Option Addr),
                ∃ (l6 : Nat),
                  ∃ (c7 : Nat),
                    cell h (Addr.add a4 (0 : Nat)) = some (Value.slice p5 l6 c7) ∧
                      br (decide (n > (↑l6 : Int)))
                        (deref r fun (a8 : Addr) =>
                          storeP none h (Addr.mk (Addr.block a8) (Addr.off a8 + (1 : Nat)) none) (Value.bool true) fun (h9 : Heap) => R (Value.slice none (0 : Nat) (0 : Nat)) h9)
                        (deref r fun (a10 : Addr) =>
                          ∃ (p11 : Option Addr),
                            ∃ (l12 : Nat),
                              ∃ (c13 : Nat),
                                cell h (Addr.add a10 (0 : Nat)) = some (Value.slice p11 l12 c13) ∧
                                  sliceP (1 : Nat) p11 (0 : Int) n n c13 fun (p14 : Option Addr) (l15 c16 : Nat) =>
                                    deref r fun (a17 : Addr) =>
                                      ∃ (p18 : Option Addr),
                                        ∃ (l19 : Nat),
                                          ∃ (c20 : Nat),
                                            cell h (Addr.add a17 (0 : Nat)) = some (Value.slice p18 l19 c20) ∧
                                              sliceP (1 : Nat) p18 n (↑l19 : Int) (↑c20 : Int) c20 fun (p21 : Option Addr) (l22 c23 : Nat) =>
                                                deref r fun (a24 : Addr) => storeP none h a24 (Value.slice p21 l22 c23) fun (h25 : Heap) => R (Value.slice p14 l15 c16) h25))))
theorem C103 (r : Option Addr) (n : Int) {h : Heap} {R : Value → Heap → Prop} (H : F103 r n h R) : CallsH Go.Proofs.Try.prog 103 [(.pointer r), (.int .i64 n)].toArray h R :=
  fn_sound (A := A103) (Eq.mp (by kernel_rfl : F103 r n h R = fnVc Go.Proofs.Try.prog A103 103 [(.pointer r), (.int .i64 n)] h R) H)

/- (*rolodex/wire.Writer).U32 -/
def A104 : Ann := { qs := [34, 35, 36, 38, 59, 63, 106, 118, 160, 102, 31, 32, 29, 60, 61, 62] }
def F104 (w : Option Addr) (x : Int) (h : Heap) (R : Value → Heap → Prop) : Prop :=
  CallsH Try.prog (108 : Nat) #[Value.pointer w, Value.int IntKind.u64 (IntKind.wrap IntKind.u64 x), Value.int IntKind.i64 (4 : Int)] h fun (v0 : Value) (h1 : Heap) =>
  v0 = Value.tuple #[] ∧ R (Value.tuple #[]) h1
theorem C104 (w : Option Addr) (x : Int) {h : Heap} {R : Value → Heap → Prop} (H : F104 w x h R) : CallsH Go.Proofs.Try.prog 104 [(.pointer w), (.int .u32 x)].toArray h R :=
  fn_sound (A := A104) (Eq.mp (by kernel_rfl : F104 w x h R = fnVc Go.Proofs.Try.prog A104 104 [(.pointer w), (.int .u32 x)] h R) H)

/- (*rolodex/wire.Writer).U64 -/
def A105 : Ann := { qs := [34, 35, 36, 38, 59, 63, 106, 118, 160, 102, 31, 32, 29, 60, 61, 62] }
def F105 (w : Option Addr) (x : Int) (h : Heap) (R : Value → Heap → Prop) : Prop :=
  CallsH Try.prog (108 : Nat) #[Value.pointer w, Value.int IntKind.u64 x, Value.int IntKind.i64 (8 : Int)] h fun (v0 : Value) (h1 : Heap) => v0 = Value.tuple #[] ∧ R (Value.tuple #[]) h1
theorem C105 (w : Option Addr) (x : Int) {h : Heap} {R : Value → Heap → Prop} (H : F105 w x h R) : CallsH Go.Proofs.Try.prog 105 [(.pointer w), (.int .u64 x)].toArray h R :=
  fn_sound (A := A105) (Eq.mp (by kernel_rfl : F105 w x h R = fnVc Go.Proofs.Try.prog A105 105 [(.pointer w), (.int .u64 x)] h R) H)

/- rolodex/rolodexref01.Bytes -/
def A106 : Ann := { qs := [34, 35, 36, 38, 59, 63, 106, 118, 160, 102, 31, 32, 29, 60, 61, 62], plans := [(3, (.take 0 (.take 1 (.take 3 (.take 4 (.take 5 (.alt 2 (.take 6 (.take 7 .done)) .stop))))))), (5, (.take 0 (.take 1 (.take 3 (.take 4 (.take 5 (.alt 2 (.take 6 (.take 7 .done)) .stop))))))), (20, (.take 0 (.take 1 (.take 3 (.take 4 (.take 5 (.alt 2 (.take 6 (.take 7 .done)) .stop)))))))] }
def F106 (f : Array Value) (h : Heap) (R : Value → Heap → Prop) : Prop :=
  newBlk h (42 : Nat) f fun (b0 : Nat) (h1 : Heap) =>
  ∃ (n2 : Int),
    cell h1 (Addr.add (Addr.mk b0 (0 : Nat) none) (0 : Nat)) = some (Value.int IntKind.i64 n2) ∧
      br (n2 == (1 : Int))
        (∃ (n3 : Int),
          cell h1 (Addr.add (Addr.mk b0 (0 : Nat) none) (1 : Nat)) = some (Value.int IntKind.u64 n3) ∧
            ∃ (n4 : Int),
              cell h1 (Addr.add (Addr.mk b0 (0 : Nat) none) (1 : Nat)) = some (Value.int IntKind.u64 n4) ∧
                CallsH Try.prog (160 : Nat) #[Value.int IntKind.u64 n3, Value.int IntKind.i64 (1 : Int)] h1 fun (v5 : Value) (h6 : Heap) =>
                  Ext h1 h6 ∧ ∃ (p7 : Option Addr), ∃ (l8 : Nat), ∃ (c9 : Nat), v5 = Value.slice p7 l8 c9 ∧ R (Value.tuple #[Value.slice p7 l8 c9, Value.bool (decide (n4 ≤ (255 : Int)))]) h6)
        (br (n2 == (2 : Int))
          (∃ (n10 : Int),
            cell h1 (Addr.add (Addr.mk b0 (0 : Nat) none) (1 : Nat)) = some (Value.int IntKind.u64 n10) ∧
              ∃ (n11 : Int),
                cell h1 (Addr.add (Addr.mk b0 (0 : Nat) none) (1 : Nat)) = some (Value.int IntKind.u64 n11) ∧
                  CallsH Try.prog (160 : Nat) #[Value.int IntKind.u64 n10, Value.int IntKind.i64 (2 : Int)] h1 fun (v12 : Value) (h13 : Heap) =>
                    Ext h1 h13 ∧
                      ∃ (p14 : Option Addr), ∃ (l15 : Nat), ∃ (c16 : Nat), v12 = Value.slice p14 l15 c16 ∧ R (Value.tuple #[Value.slice p14 l15 c16, Value.bool (decide (n11 ≤ (65535 : Int)))]) h13)
          (br (n2 == (3 : Int))
            (∃ (n17 : Int),
              cell h1 (Addr.add (Addr.mk b0 (0 : Nat) none) (1 : Nat)) = some (Value.int IntKind.u64 n17) ∧
                (4294967296 : Int) ≠ (0 : Int) ∧
                  CallsH Try.prog (160 : Nat) #[Value.int IntKind.u64 (Int.tmod n17 (4294967296 : Int)), Value.int IntKind.i64 (4 : Int)] h1 fun (v18 : Value) (h19 : Heap) =>
                    Ext h1 h19 ∧ ∃ (p20 : Option Addr), ∃ (l21 : Nat), ∃ (c22 : Nat), v18 = Value.slice p20 l21 c22 ∧ R (Value.tuple #[Value.slice p20 l21 c22, Value.bool true]) h19)
            (br (n2 == (4 : Int))
              (∃ (n23 : Int),
                cell h1 (Addr.add (Addr.mk b0 (0 : Nat) none) (1 : Nat)) = some (Value.int IntKind.u64 n23) ∧
                  CallsH Try.prog (160 : Nat) #[Value.int IntKind.u64 n23, Value.int IntKind.i64 (8 : Int)] h1 fun (v24 : Value) (h25 : Heap) =>
                    Ext h1 h25 ∧ ∃ (p26 : Option Addr), ∃ (l27 : Nat), ∃ (c28 : Nat), v24 = Value.slice p26 l27 c28 ∧ R (Value.tuple #[Value.slice p26 l27 c28, Value.bool true]) h25)
              (br (n2 == (5 : Int))
                (∃ (n29 : Int),
                  cell h1 (Addr.add (Addr.mk b0 (0 : Nat) none) (1 : Nat)) = some (Value.int IntKind.u64 n29) ∧
                    (2 : Int) ≠ (0 : Int) ∧
                      CallsH Try.prog (160 : Nat) #[Value.int IntKind.u64 (Int.tmod n29 (2 : Int)), Value.int IntKind.i64 (1 : Int)] h1 fun (v30 : Value) (h31 : Heap) =>
                        Ext h1 h31 ∧ ∃ (p32 : Option Addr), ∃ (l33 : Nat), ∃ (c34 : Nat), v30 = Value.slice p32 l33 c34 ∧ R (Value.tuple #[Value.slice p32 l33 c34, Value.bool true]) h31)
                (br (n2 == (6 : Int))
                  (∃ (p35 : Option Addr),
                    ∃ (l36 : Nat),
                      ∃ (c37 : Nat), cell h1 (Addr.add (Addr.mk b0 (0 : Nat) none) (2 : Nat)) = some (Value.slice p35 l36 c37) ∧ R (Value.tuple #[Value.slice p35 l36 c37, Value.bool true]) h1)
                  (br (n2 == (7 : Int))
                    (∃ (p38 : Option Addr),
                      ∃ (l39 : Nat),
                        ∃ (c40 : Nat),
                          cell h1 (Addr.add (Addr.mk b0 (0 : Nat) none) (2 : Nat)) = some (Value.slice p38 l39 c40) ∧
                            br (decide ((↑l39 : Int) > (8192 : Int))) (R (Value.tuple #[Value.slice none (0 : Nat) (0 : Nat), Value.bool false]) h1)
                              (∃ (p41 : Option Addr),
                                ∃ (l42 : Nat),
                                  ∃ (c43 : Nat),
                                    cell h1 (Addr.add (Addr.mk b0 (0 : Nat) none) (2 : Nat)) = some (Value.slice p41 l42 c43) ∧
                                      CallsH Try.prog (160 : Nat) #[Value.int IntKind.u64 (IntKind.wrap IntKind.u64 (↑l42 : Int)), Value.int IntKind.i64 (2 : Int)] h1 fun (v44 : Value) (h45 : Heap) =>
                                        Ext h1 h45 ∧
                                          ∃ (p46 : Option Addr),
                                            ∃ (l47 : Nat),
                                              ∃ (c48 : Nat),
                                                v44 = Value.slice p46 l47 c48 ∧
                                                  ∃ (p49 : Option Addr),
                                                    ∃ (l50 : Nat),
                                                      ∃ (c51 : Nat),
                                                        cell h45 (Addr.add (Addr.mk b0 (0 : Nat) none) (2 : Nat)) = some (Value.slice p49 l50 c51) ∧
                                                          appendP (5 : Nat) (1 : Nat) (1 : Nat) #[Value.int IntKind.u8 (0 : Int)] p46 l47 c48 p49 l50 h45
                                                            fun (p52 : Option Addr) (l53 c54 : Nat) (h55 : Heap) => R (Value.tuple #[Value.slice p52 l53 c54, Value.bool true]) h55))
                    (br (n2 == (8 : Int))
                      (∃ (n56 : Int),
                        cell h1 (Addr.add (Addr.mk b0 (0 : Nat) none) (1 : Nat)) = some (Value.int IntKind.u64 n56) ∧
                          ∃ (n57 : Int),
                            cell h1 (Addr.add (Addr.mk b0 (0 : Nat) none) (1 : Nat)) = some (Value.int IntKind.u64 n57) ∧
                              CallsH Try.prog (160 : Nat) #[Value.int IntKind.u64 n56, Value.int IntKind.i64 (2 : Int)] h1 fun (v58 : Value) (h59 : Heap) =>
                                Ext h1 h59 ∧
                                  ∃ (p60 : Option Addr),
                                    ∃ (l61 : Nat), ∃ (c62 : Nat), v58 = Value.slice p60 l61 c62 ∧ R (Value.tuple #[Value.slice p60 l61 c62, Value.bool (decide (n57 ≤ (4096 : Int)))]) h59)
                      (R (Value.tuple #[Value.slice none (0 : Nat) (0 : Nat), Value.bool true]) h1))))))))
theorem C106 (f : Array Value) {h : Heap} {R : Value → Heap → Prop} (H : F106 f h R) : CallsH Go.Proofs.Try.prog 106 [(.agg f)].toArray h R :=
  fn_sound (A := A106) (Eq.mp (by kernel_rfl : F106 f h R = fnVc Go.Proofs.Try.prog A106 106 [(.agg f)] h R) H)

/- (*rolodex/wire.Writer).within -/
def A107 : Ann := { qs := [34, 35, 36, 38, 59, 63, 106, 118, 160, 102, 31, 32, 29, 60, 61, 62] }
def F107 (w : Option Addr) (x : Int) (most : Int) (h : Heap) (R : Value → Heap → Prop) : Prop :=
  br (Option.isNone w) (R (Value.bool false) h)
  (br (decide (x < (0 : Int)))
    (deref w fun (a0 : Addr) =>
      storeP none h (Addr.mk (Addr.block a0) (Addr.off a0 + (1 : Nat)) none) (Value.bool true) fun (h1 : Heap) =>
        deref w fun (a2 : Addr) => ∃ (t3 : Bool), cell h1 (Addr.add a2 (1 : Nat)) = some (Value.bool t3) ∧ R (Value.bool !t3) h1)
    (br (decide (x > most))
      (deref w fun (a4 : Addr) =>
        storeP none h (Addr.mk (Addr.block a4) (Addr.off a4 + (1 : Nat)) none) (Value.bool true) fun (h5 : Heap) =>
          deref w fun (a6 : Addr) => ∃ (t7 : Bool), cell h5 (Addr.add a6 (1 : Nat)) = some (Value.bool t7) ∧ R (Value.bool !t7) h5)
      (deref w fun (a8 : Addr) => ∃ (t9 : Bool), cell h (Addr.add a8 (1 : Nat)) = some (Value.bool t9) ∧ R (Value.bool !t9) h)))
theorem C107 (w : Option Addr) (x : Int) (most : Int) {h : Heap} {R : Value → Heap → Prop} (H : F107 w x most h R) : CallsH Go.Proofs.Try.prog 107 [(.pointer w), (.int .i64 x), (.int .i64 most)].toArray h R :=
  fn_sound (A := A107) (Eq.mp (by kernel_rfl : F107 w x most h R = fnVc Go.Proofs.Try.prog A107 107 [(.pointer w), (.int .i64 x), (.int .i64 most)] h R) H)

/- (*rolodex/wire.Writer).number -/
def A108 : Ann := { qs := [34, 35, 36, 38, 59, 63, 106, 118, 160, 102, 31, 32, 29, 60, 61, 62], loops := [(2, [(6, (.int .i64))])], plans := [(4, (.take 0 (.take 1 (.take 2 (.take 3 (.take 4 (.take 5 (.take 6 (.take 7 (.take 8 (.take 9 (.alt 10 (.alt 11 (.take 12 (.take 13 (.alt 14 .done .stop))) .stop) .stop))))))))))))] }
def F108 (w : Option Addr) (x : Int) (bytes : Int) (h : Heap) (R : Value → Heap → Prop) : Prop :=
  br (Option.isNone w) (R (Value.tuple #[]) h)
  (deref w fun (a0 : Addr) =>
    ∃ (t1 : Bool),
      cell h (Addr.add a0 (1 : Nat)) = some (Value.bool t1) ∧
        br t1 (R (Value.tuple #[]) h)
          (∃ (I2 : Int → Heap → Prop),
            ∃ (μ3 : Int → Heap → Nat),
              I2 (IntKind.wrap IntKind.i64 (bytes - (1 : Int))) h ∧
                ∀ (n4 : Int) (h5 : Heap),
                  I2 n4 h5 →
                    br (decide (n4 ≥ (0 : Int)))
                      (deref w fun (a6 : Addr) =>
                        ∃ (p7 : Option Addr),
                          ∃ (l8 : Nat),
                            ∃ (c9 : Nat),
                              cell h5 (Addr.add a6 (0 : Nat)) = some (Value.slice p7 l8 c9) ∧
                                (0 : Int) ≤ IntKind.wrap IntKind.i64 ((8 : Int) * n4) ∧
                                  newBlk h5 (5 : Nat) #[Value.int IntKind.u8 (IntKind.wrap IntKind.u8 (shrI IntKind.u64 x (IntKind.wrap IntKind.i64 ((8 : Int) * n4))))] fun (b10 : Nat) (h11 : Heap) =>
                                    appendP (5 : Nat) (1 : Nat) (1 : Nat) #[Value.int IntKind.u8 (0 : Int)] p7 l8 c9 (some (Addr.mk b10 (0 : Nat) none)) (1 : Nat) h11
                                      fun (p12 : Option Addr) (l13 c14 : Nat) (h15 : Heap) =>
                                      deref w fun (a16 : Addr) =>
                                        storeP none h15 a16 (Value.slice p12 l13 c14) fun (h17 : Heap) =>
                                          I2 (IntKind.wrap IntKind.i64 (n4 - (1 : Int))) h17 ∧ μ3 (IntKind.wrap IntKind.i64 (n4 - (1 : Int))) h17 < μ3 n4 h5)
                      (R (Value.tuple #[]) h5)))
theorem C108 (w : Option Addr) (x : Int) (bytes : Int) {h : Heap} {R : Value → Heap → Prop} (H : F108 w x bytes h R) : CallsH Go.Proofs.Try.prog 108 [(.pointer w), (.int .u64 x), (.int .i64 bytes)].toArray h R :=
  fn_sound (A := A108) (Eq.mp (by kernel_rfl : F108 w x bytes h R = fnVc Go.Proofs.Try.prog A108 108 [(.pointer w), (.int .u64 x), (.int .i64 bytes)] h R) H)

/- (*rolodex/wire.Reader).U8 -/
def A111 : Ann := { qs := [34, 35, 36, 38, 59, 63, 106, 118, 160, 102, 31, 32, 29, 60, 61, 62] }
def F111 (r : Option Addr) (h : Heap) (R : Value → Heap → Prop) : Prop :=
  CallsH Try.prog (161 : Nat) #[Value.pointer r, Value.int IntKind.i64 (1 : Int)] h fun (v0 : Value) (h1 : Heap) =>
  ∃ (n2 : Int), v0 = Value.int IntKind.u64 n2 ∧ R (Value.int IntKind.i64 (IntKind.wrap IntKind.i64 n2)) h1
theorem C111 (r : Option Addr) {h : Heap} {R : Value → Heap → Prop} (H : F111 r h R) : CallsH Go.Proofs.Try.prog 111 [(.pointer r)].toArray h R :=
  fn_sound (A := A111) (Eq.mp (by kernel_rfl : F111 r h R = fnVc Go.Proofs.Try.prog A111 111 [(.pointer r)] h R) H)

/- (*rolodex/wire.Reader).U16 -/
def A112 : Ann := { qs := [34, 35, 36, 38, 59, 63, 106, 118, 160, 102, 31, 32, 29, 60, 61, 62] }
def F112 (r : Option Addr) (h : Heap) (R : Value → Heap → Prop) : Prop :=
  CallsH Try.prog (161 : Nat) #[Value.pointer r, Value.int IntKind.i64 (2 : Int)] h fun (v0 : Value) (h1 : Heap) =>
  ∃ (n2 : Int), v0 = Value.int IntKind.u64 n2 ∧ R (Value.int IntKind.i64 (IntKind.wrap IntKind.i64 n2)) h1
theorem C112 (r : Option Addr) {h : Heap} {R : Value → Heap → Prop} (H : F112 r h R) : CallsH Go.Proofs.Try.prog 112 [(.pointer r)].toArray h R :=
  fn_sound (A := A112) (Eq.mp (by kernel_rfl : F112 r h R = fnVc Go.Proofs.Try.prog A112 112 [(.pointer r)] h R) H)

/- (*rolodex/wire.Reader).U32 -/
def A113 : Ann := { qs := [34, 35, 36, 38, 59, 63, 106, 118, 160, 102, 31, 32, 29, 60, 61, 62] }
def F113 (r : Option Addr) (h : Heap) (R : Value → Heap → Prop) : Prop :=
  CallsH Try.prog (161 : Nat) #[Value.pointer r, Value.int IntKind.i64 (4 : Int)] h fun (v0 : Value) (h1 : Heap) =>
  ∃ (n2 : Int), v0 = Value.int IntKind.u64 n2 ∧ R (Value.int IntKind.u32 (IntKind.wrap IntKind.u32 n2)) h1
theorem C113 (r : Option Addr) {h : Heap} {R : Value → Heap → Prop} (H : F113 r h R) : CallsH Go.Proofs.Try.prog 113 [(.pointer r)].toArray h R :=
  fn_sound (A := A113) (Eq.mp (by kernel_rfl : F113 r h R = fnVc Go.Proofs.Try.prog A113 113 [(.pointer r)] h R) H)

/- (*rolodex/wire.Reader).U64 -/
def A114 : Ann := { qs := [34, 35, 36, 38, 59, 63, 106, 118, 160, 102, 31, 32, 29, 60, 61, 62] }
def F114 (r : Option Addr) (h : Heap) (R : Value → Heap → Prop) : Prop :=
  CallsH Try.prog (161 : Nat) #[Value.pointer r, Value.int IntKind.i64 (8 : Int)] h fun (v0 : Value) (h1 : Heap) => ∃ (n2 : Int), v0 = Value.int IntKind.u64 n2 ∧ R (Value.int IntKind.u64 n2) h1
theorem C114 (r : Option Addr) {h : Heap} {R : Value → Heap → Prop} (H : F114 r h R) : CallsH Go.Proofs.Try.prog 114 [(.pointer r)].toArray h R :=
  fn_sound (A := A114) (Eq.mp (by kernel_rfl : F114 r h R = fnVc Go.Proofs.Try.prog A114 114 [(.pointer r)] h R) H)

/- (*rolodex/wire.Reader).Flag -/
def A115 : Ann := { qs := [34, 35, 36, 38, 59, 63, 106, 118, 160, 102, 31, 32, 29, 60, 61, 62] }
def F115 (r : Option Addr) (h : Heap) (R : Value → Heap → Prop) : Prop :=
  CallsH Try.prog (162 : Nat) #[Value.pointer r, Value.int IntKind.i64 (1 : Int)] h fun (v0 : Value) (h1 : Heap) =>
  ∃ (n2 : Int),
    ∃ (t3 : Bool),
      v0 = Value.tuple #[Value.int IntKind.u64 n2, Value.bool t3] ∧
        br (!t3)
          (CallsH Try.prog (163 : Nat) #[Value.pointer r] h1 fun (v4 : Value) (h5 : Heap) =>
            v4 = Value.tuple #[] ∧
              CallsH Try.prog (161 : Nat) #[Value.pointer r, Value.int IntKind.i64 (1 : Int)] h5 fun (v6 : Value) (h7 : Heap) =>
                ∃ (n8 : Int), v6 = Value.int IntKind.u64 n8 ∧ R (Value.bool (n8 == (1 : Int))) h7)
          (br (decide (n2 > (1 : Int)))
            (CallsH Try.prog (163 : Nat) #[Value.pointer r] h1 fun (v9 : Value) (h10 : Heap) =>
              v9 = Value.tuple #[] ∧
                CallsH Try.prog (161 : Nat) #[Value.pointer r, Value.int IntKind.i64 (1 : Int)] h10 fun (v11 : Value) (h12 : Heap) =>
                  ∃ (n13 : Int), v11 = Value.int IntKind.u64 n13 ∧ R (Value.bool (n13 == (1 : Int))) h12)
            (CallsH Try.prog (161 : Nat) #[Value.pointer r, Value.int IntKind.i64 (1 : Int)] h1 fun (v14 : Value) (h15 : Heap) =>
              ∃ (n16 : Int), v14 = Value.int IntKind.u64 n16 ∧ R (Value.bool (n16 == (1 : Int))) h15))
theorem C115 (r : Option Addr) {h : Heap} {R : Value → Heap → Prop} (H : F115 r h R) : CallsH Go.Proofs.Try.prog 115 [(.pointer r)].toArray h R :=
  fn_sound (A := A115) (Eq.mp (by kernel_rfl : F115 r h R = fnVc Go.Proofs.Try.prog A115 115 [(.pointer r)] h R) H)

/- (*rolodex/wire.Reader).String -/
def A116 : Ann := { qs := [34, 35, 36, 38, 59, 63, 106, 118, 160, 102, 31, 32, 29, 60, 61, 62] }
def F116 (r : Option Addr) (most : Int) (h : Heap) (R : Value → Heap → Prop) : Prop :=
  CallsH Try.prog (162 : Nat) #[Value.pointer r, Value.int IntKind.i64 (2 : Int)] h fun (v0 : Value) (h1 : Heap) =>
  ∃ (n2 : Int),
    ∃ (t3 : Bool),
      v0 = Value.tuple #[Value.int IntKind.u64 n2, Value.bool t3] ∧
        br (!t3) (CallsH Try.prog (163 : Nat) #[Value.pointer r] h1 fun (v4 : Value) (h5 : Heap) => v4 = Value.tuple #[] ∧ R (Value.slice none (0 : Nat) (0 : Nat)) h5)
          (br (decide (IntKind.wrap IntKind.i64 n2 > most))
            (CallsH Try.prog (163 : Nat) #[Value.pointer r] h1 fun (v6 : Value) (h7 : Heap) => v6 = Value.tuple #[] ∧ R (Value.slice none (0 : Nat) (0 : Nat)) h7)
            (br (decide (n2 > (8192 : Int))) (CallsH Try.prog (163 : Nat) #[Value.pointer r] h1 fun (v8 : Value) (h9 : Heap) => v8 = Value.tuple #[] ∧ R (Value.slice none (0 : Nat) (0 : Nat)) h9)
              (CallsH Try.prog (61 : Nat) #[Value.pointer r] h1 fun (v10 : Value) (h11 : Heap) =>
                Ext h1 h11 ∧
                  ∃ (n12 : Int),
                    v10 = Value.int IntKind.i64 n12 ∧
                      br (decide (IntKind.wrap IntKind.i64 n2 > IntKind.wrap IntKind.i64 (n12 - (2 : Int))))
                        (CallsH Try.prog (163 : Nat) #[Value.pointer r] h11 fun (v13 : Value) (h14 : Heap) => v13 = Value.tuple #[] ∧ R (Value.slice none (0 : Nat) (0 : Nat)) h14)
                        (CallsH Try.prog (161 : Nat) #[Value.pointer r, Value.int IntKind.i64 (2 : Int)] h11 fun (v15 : Value) (h16 : Heap) =>
                          ∃ (n17 : Int),
                            v15 = Value.int IntKind.u64 n17 ∧
                              CallsH Try.prog (103 : Nat) #[Value.pointer r, Value.int IntKind.i64 (IntKind.wrap IntKind.i64 n2)] h16 fun (v18 : Value) (h19 : Heap) =>
                                ∃ (p20 : Option Addr), ∃ (l21 : Nat), ∃ (c22 : Nat), v18 = Value.slice p20 l21 c22 ∧ R (Value.slice p20 l21 c22) h19))))
theorem C116 (r : Option Addr) (most : Int) {h : Heap} {R : Value → Heap → Prop} (H : F116 r most h R) : CallsH Go.Proofs.Try.prog 116 [(.pointer r), (.int .i64 most)].toArray h R :=
  fn_sound (A := A116) (Eq.mp (by kernel_rfl : F116 r most h R = fnVc Go.Proofs.Try.prog A116 116 [(.pointer r), (.int .i64 most)] h R) H)

/- (*rolodex/wire.Reader).Count -/
def A117 : Ann := { qs := [34, 35, 36, 38, 59, 63, 106, 118, 160, 102, 31, 32, 29, 60, 61, 62] }
def F117 (r : Option Addr) (most : Int) (h : Heap) (R : Value → Heap → Prop) : Prop :=
  CallsH Try.prog (162 : Nat) #[Value.pointer r, Value.int IntKind.i64 (2 : Int)] h fun (v0 : Value) (h1 : Heap) =>
  ∃ (n2 : Int),
    ∃ (t3 : Bool),
      v0 = Value.tuple #[Value.int IntKind.u64 n2, Value.bool t3] ∧
        br (!t3) (CallsH Try.prog (163 : Nat) #[Value.pointer r] h1 fun (v4 : Value) (h5 : Heap) => v4 = Value.tuple #[] ∧ R (Value.int IntKind.i64 (0 : Int)) h5)
          (br (decide (IntKind.wrap IntKind.i64 n2 > most))
            (CallsH Try.prog (163 : Nat) #[Value.pointer r] h1 fun (v6 : Value) (h7 : Heap) => v6 = Value.tuple #[] ∧ R (Value.int IntKind.i64 (0 : Int)) h7)
            (br (decide (n2 > (4096 : Int))) (CallsH Try.prog (163 : Nat) #[Value.pointer r] h1 fun (v8 : Value) (h9 : Heap) => v8 = Value.tuple #[] ∧ R (Value.int IntKind.i64 (0 : Int)) h9)
              (CallsH Try.prog (161 : Nat) #[Value.pointer r, Value.int IntKind.i64 (2 : Int)] h1 fun (v10 : Value) (h11 : Heap) =>
                ∃ (n12 : Int), v10 = Value.int IntKind.u64 n12 ∧ R (Value.int IntKind.i64 (IntKind.wrap IntKind.i64 n12)) h11)))
theorem C117 (r : Option Addr) (most : Int) {h : Heap} {R : Value → Heap → Prop} (H : F117 r most h R) : CallsH Go.Proofs.Try.prog 117 [(.pointer r), (.int .i64 most)].toArray h R :=
  fn_sound (A := A117) (Eq.mp (by kernel_rfl : F117 r most h R = fnVc Go.Proofs.Try.prog A117 117 [(.pointer r), (.int .i64 most)] h R) H)

/- rolodex/rolodexref01.Value -/
def A118 : Ann := { qs := [34, 35, 36, 38, 59, 63, 106, 118, 160, 102, 31, 32, 29, 60, 61, 62], loops := [(3, [(3, (.int .u64)), (4, (.int .i64))])] }
def F118 (b : Option Addr) (b_l : Nat) (b_c : Nat) (h : Heap) (R : Value → Heap → Prop) : Prop :=
  ∃ (I0 : Int × Int → Heap → Prop),
  ∃ (μ1 : Int × Int → Heap → Nat),
    I0 ((0 : Int), (0 : Int)) h ∧
      ∀ (s2 : Int × Int) (h3 : Heap),
        I0 s2 h3 →
          br (decide (Prod.snd s2 < (↑b_l : Int)))
            ((0 : Int) ≤ Prod.snd s2 ∧
              Prod.snd s2 < (↑b_l : Int) ∧
                deref b fun (a4 : Addr) =>
                  ∃ (n5 : Int),
                    cell h3 (Addr.add a4 (Int.toNat (Prod.snd s2) * (1 : Nat))) = some (Value.int IntKind.u8 n5) ∧
                      I0 (IntKind.wrap IntKind.u64 (IntKind.wrap IntKind.u64 (Prod.fst s2 * (256 : Int)) + IntKind.wrap IntKind.u64 n5), IntKind.wrap IntKind.i64 (Prod.snd s2 + (1 : Int))) h3 ∧
                        μ1 (IntKind.wrap IntKind.u64 (IntKind.wrap IntKind.u64 (Prod.fst s2 * (256 : Int)) + IntKind.wrap IntKind.u64 n5), IntKind.wrap IntKind.i64 (Prod.snd s2 + (1 : Int))) h3 <
                          μ1 s2 h3)
            (R (Value.int IntKind.u64 (Prod.fst s2)) h3)
theorem C118 (b : Option Addr) (b_l : Nat) (b_c : Nat) {h : Heap} {R : Value → Heap → Prop} (H : F118 b b_l b_c h R) : CallsH Go.Proofs.Try.prog 118 [(.slice b b_l b_c)].toArray h R :=
  fn_sound (A := A118) (Eq.mp (by kernel_rfl : F118 b b_l b_c h R = fnVc Go.Proofs.Try.prog A118 118 [(.slice b b_l b_c)] h R) H)

/- rolodex/rolodexref01.Number -/
def A160 : Ann := { qs := [34, 35, 36, 38, 59, 63, 106, 118, 160, 102, 31, 32, 29, 60, 61, 62], loops := [(3, [(0, (.int .u64)), (5, .slice), (7, (.int .i64))]), (8, [(6, .slice), (8, (.int .i64))])] }
def F160 (x : Int) (bytes : Int) (h : Heap) (R : Value → Heap → Prop) : Prop :=
  ∃ (I0 : Int × (Option Addr × Nat × Nat) × Int → Heap → Prop),
  ∃ (μ1 : Int × (Option Addr × Nat × Nat) × Int → Heap → Nat),
    I0 (x, (none, (0 : Nat), (0 : Nat)), (0 : Int)) h ∧
      ∀ (s2 : Int × (Option Addr × Nat × Nat) × Int) (h3 : Heap),
        I0 s2 h3 →
          br (decide (Prod.snd (Prod.snd s2) < bytes))
            ((256 : Int) ≠ (0 : Int) ∧
              newBlk h3 (5 : Nat) #[Value.int IntKind.u8 (IntKind.wrap IntKind.u8 (Int.tmod (Prod.fst s2) (256 : Int)))] fun (b4 : Nat) (h5 : Heap) =>
                appendP (5 : Nat) (1 : Nat) (1 : Nat) #[Value.int IntKind.u8 (0 : Int)] (Prod.fst (Prod.fst (Prod.snd s2))) (Prod.fst (Prod.snd (Prod.fst (Prod.snd s2))))
                  (Prod.snd (Prod.snd (Prod.fst (Prod.snd s2)))) (some (Addr.mk b4 (0 : Nat) none)) (1 : Nat) h5 fun (p6 : Option Addr) (l7 c8 : Nat) (h9 : Heap) =>
                  (256 : Int) ≠ (0 : Int) ∧
                    I0 (IntKind.wrap IntKind.u64 (Int.tdiv (Prod.fst s2) (256 : Int)), (p6, l7, c8), IntKind.wrap IntKind.i64 (Prod.snd (Prod.snd s2) + (1 : Int))) h9 ∧
                      μ1 (IntKind.wrap IntKind.u64 (Int.tdiv (Prod.fst s2) (256 : Int)), (p6, l7, c8), IntKind.wrap IntKind.i64 (Prod.snd (Prod.snd s2) + (1 : Int))) h9 < μ1 s2 h3)
            (∃ (I10 : (Option Addr × Nat × Nat) × Int → Heap → Prop),
              ∃ (μ11 : (Option Addr × Nat × Nat) × Int → Heap → Nat),
                I10 ((none, (0 : Nat), (0 : Nat)), IntKind.wrap IntKind.i64 (bytes - (1 : Int))) h3 ∧
                  ∀ (s12 : (Option Addr × Nat × Nat) × Int) (h13 : Heap),
                    I10 s12 h13 →
                      br (decide (Prod.snd s12 ≥ (0 : Int)))
                        ((0 : Int) ≤ Prod.snd s12 ∧
                          Prod.snd s12 < (↑(Prod.fst (Prod.snd (Prod.fst (Prod.snd s2)))) : Int) ∧
                            deref (Prod.fst (Prod.fst (Prod.snd s2))) fun (a14 : Addr) =>
                              ∃ (n15 : Int),
                                cell h13 (Addr.add a14 (Int.toNat (Prod.snd s12) * (1 : Nat))) = some (Value.int IntKind.u8 n15) ∧
                                  newBlk h13 (5 : Nat) #[Value.int IntKind.u8 n15] fun (b16 : Nat) (h17 : Heap) =>
                                    appendP (5 : Nat) (1 : Nat) (1 : Nat) #[Value.int IntKind.u8 (0 : Int)] (Prod.fst (Prod.fst s12)) (Prod.fst (Prod.snd (Prod.fst s12)))
                                      (Prod.snd (Prod.snd (Prod.fst s12))) (some (Addr.mk b16 (0 : Nat) none)) (1 : Nat) h17 fun (p18 : Option Addr) (l19 c20 : Nat) (h21 : Heap) =>
                                      I10 ((p18, l19, c20), IntKind.wrap IntKind.i64 (Prod.snd s12 - (1 : Int))) h21 ∧
                                        μ11 ((p18, l19, c20), IntKind.wrap IntKind.i64 (Prod.snd s12 - (1 : Int))) h21 < μ11 s12 h13)
                        (R (Value.slice (Prod.fst (Prod.fst s12)) (Prod.fst (Prod.snd (Prod.fst s12))) (Prod.snd (Prod.snd (Prod.fst s12)))) h13))
theorem C160 (x : Int) (bytes : Int) {h : Heap} {R : Value → Heap → Prop} (H : F160 x bytes h R) : CallsH Go.Proofs.Try.prog 160 [(.int .u64 x), (.int .i64 bytes)].toArray h R :=
  fn_sound (A := A160) (Eq.mp (by kernel_rfl : F160 x bytes h R = fnVc Go.Proofs.Try.prog A160 160 [(.int .u64 x), (.int .i64 bytes)] h R) H)

/- (*rolodex/wire.Reader).number -/
def A161 : Ann := { qs := [34, 35, 36, 38, 59, 63, 106, 118, 160, 102, 31, 32, 29, 60, 61, 62] }
def F161 (r : Option Addr) (bytes : Int) (h : Heap) (R : Value → Heap → Prop) : Prop :=
  CallsH Try.prog (162 : Nat) #[Value.pointer r, Value.int IntKind.i64 bytes] h fun (v0 : Value) (h1 : Heap) =>
  ∃ (n2 : Int),
    ∃ (t3 : Bool),
      v0 = Value.tuple #[Value.int IntKind.u64 n2, Value.bool t3] ∧
        CallsH Try.prog (103 : Nat) #[Value.pointer r, Value.int IntKind.i64 bytes] h1 fun (v4 : Value) (h5 : Heap) =>
          ∃ (p6 : Option Addr), ∃ (l7 : Nat), ∃ (c8 : Nat), v4 = Value.slice p6 l7 c8 ∧ br (!t3) (R (Value.int IntKind.u64 (0 : Int)) h5) (R (Value.int IntKind.u64 n2) h5)
theorem C161 (r : Option Addr) (bytes : Int) {h : Heap} {R : Value → Heap → Prop} (H : F161 r bytes h R) : CallsH Go.Proofs.Try.prog 161 [(.pointer r), (.int .i64 bytes)].toArray h R :=
  fn_sound (A := A161) (Eq.mp (by kernel_rfl : F161 r bytes h R = fnVc Go.Proofs.Try.prog A161 161 [(.pointer r), (.int .i64 bytes)] h R) H)

/- (*rolodex/wire.Reader).peek -/
def A162 : Ann := { qs := [34, 35, 36, 38, 59, 63, 106, 118, 160, 102, 31, 32, 29, 60, 61, 62], loops := [(5, [(6, (.int .u64)), (33, (.int .i64))])] }
def F162 (r : Option Addr) (bytes : Int) (h : Heap) (R : Value → Heap → Prop) : Prop :=
  br (Option.isNone r) (R (Value.tuple #[Value.int IntKind.u64 (0 : Int), Value.bool false]) h)
  (deref r fun (a0 : Addr) =>
    ∃ (t1 : Bool),
      cell h (Addr.add a0 (1 : Nat)) = some (Value.bool t1) ∧
        br t1 (R (Value.tuple #[Value.int IntKind.u64 (0 : Int), Value.bool false]) h)
          (deref r fun (a2 : Addr) =>
            ∃ (p3 : Option Addr),
              ∃ (l4 : Nat),
                ∃ (c5 : Nat),
                  cell h (Addr.add a2 (0 : Nat)) = some (Value.slice p3 l4 c5) ∧
                    br (decide ((↑l4 : Int) < bytes)) (R (Value.tuple #[Value.int IntKind.u64 (0 : Int), Value.bool false]) h)
                      (deref r fun (a6 : Addr) =>
                        ∃ (p7 : Option Addr),
                          ∃ (l8 : Nat),
                            ∃ (c9 : Nat),
                              cell h (Addr.add a6 (0 : Nat)) = some (Value.slice p7 l8 c9) ∧
                                sliceP (1 : Nat) p7 (0 : Int) bytes (↑c9 : Int) c9 fun (p10 : Option Addr) (l11 c12 : Nat) =>
                                  ∃ (I13 : Int × Int → Heap → Prop),
                                    ∃ (μ14 : Int × Int → Heap → Nat),
                                      I13 ((0 : Int), (0 : Int)) h ∧
                                        ∀ (s15 : Int × Int) (h16 : Heap),
                                          I13 s15 h16 →
                                            br (decide (Prod.snd s15 < (↑l11 : Int)))
                                              ((0 : Int) ≤ Prod.snd s15 ∧
                                                Prod.snd s15 < (↑l11 : Int) ∧
                                                  deref p10 fun (a17 : Addr) =>
                                                    ∃ (n18 : Int),
                                                      cell h16 (Addr.add a17 (Int.toNat (Prod.snd s15) * (1 : Nat))) = some (Value.int IntKind.u8 n18) ∧
                                                        (0 : Int) ≤ (8 : Int) ∧
                                                          I13
                                                              (orI IntKind.u64 (shlI IntKind.u64 (Prod.fst s15) (8 : Int)) (IntKind.wrap IntKind.u64 n18),
                                                                IntKind.wrap IntKind.i64 (Prod.snd s15 + (1 : Int)))
                                                              h16 ∧
                                                            μ14
                                                                (orI IntKind.u64 (shlI IntKind.u64 (Prod.fst s15) (8 : Int)) (IntKind.wrap IntKind.u64 n18),
                                                                  IntKind.wrap IntKind.i64 (Prod.snd s15 + (1 : Int)))
                                                                h16 <
                                                              μ14 s15 h16)
                                              (R (Value.tuple #[Value.int IntKind.u64 (Prod.fst s15), Value.bool true]) h16))))
theorem C162 (r : Option Addr) (bytes : Int) {h : Heap} {R : Value → Heap → Prop} (H : F162 r bytes h R) : CallsH Go.Proofs.Try.prog 162 [(.pointer r), (.int .i64 bytes)].toArray h R :=
  fn_sound (A := A162) (Eq.mp (by kernel_rfl : F162 r bytes h R = fnVc Go.Proofs.Try.prog A162 162 [(.pointer r), (.int .i64 bytes)] h R) H)

/- (*rolodex/wire.Reader).spoil -/
def A163 : Ann := { qs := [34, 35, 36, 38, 59, 63, 106, 118, 160, 102, 31, 32, 29, 60, 61, 62] }
def F163 (r : Option Addr) (h : Heap) (R : Value → Heap → Prop) : Prop :=
  br (!Option.isNone r) (deref r fun (a0 : Addr) => storeP none h (Addr.mk (Addr.block a0) (Addr.off a0 + (1 : Nat)) none) (Value.bool true) fun (h1 : Heap) => R (Value.tuple #[]) h1)
  (R (Value.tuple #[]) h)
theorem C163 (r : Option Addr) {h : Heap} {R : Value → Heap → Prop} (H : F163 r h R) : CallsH Go.Proofs.Try.prog 163 [(.pointer r)].toArray h R :=
  fn_sound (A := A163) (Eq.mp (by kernel_rfl : F163 r h R = fnVc Go.Proofs.Try.prog A163 163 [(.pointer r)] h R) H)

/- rolodex/rolodexlaw01.WireOwn -/
def A3 : Ann := { qs := [34, 35, 36, 38, 59, 63, 106, 118, 160, 102, 31, 32, 29, 60, 61, 62], loops := [(9, [(7, (.int .i64))]), (16, [(12, (.int .i64))])] }
def F3 (b : Option Addr) (b_l : Nat) (b_c : Nat) (h : Heap) (R : Value → Heap → Prop) : Prop :=
  CallsH Try.prog (29 : Nat) #[] h fun (v0 : Value) (h1 : Heap) =>
  Ext h h1 ∧
    ∃ (t2 : Bool),
      v0 = Value.bool t2 ∧
        br (!t2) (CallsH Try.prog (29 : Nat) #[] h1 fun (v3 : Value) (h4 : Heap) => Ext h1 h4 ∧ ∃ (t5 : Bool), v3 = Value.bool t5 ∧ R (Value.bool t5) h4)
          (br (decide ((↑b_l : Int) > (300 : Int))) (CallsH Try.prog (29 : Nat) #[] h1 fun (v6 : Value) (h7 : Heap) => Ext h1 h7 ∧ ∃ (t8 : Bool), v6 = Value.bool t8 ∧ R (Value.bool t8) h7)
            (appendP (5 : Nat) (1 : Nat) (1 : Nat) #[Value.int IntKind.u8 (0 : Int)] none (0 : Nat) (0 : Nat) b b_l h1 fun (p9 : Option Addr) (l10 c11 : Nat) (h12 : Heap) =>
              newBlk h12 (26 : Nat) #[Value.slice none (0 : Nat) (0 : Nat), Value.bool false] fun (b13 : Nat) (h14 : Heap) =>
                CallsH Try.prog (30 : Nat) #[Value.pointer (some (Addr.mk b13 (0 : Nat) none)), Value.slice b b_l b_c] h14 fun (v15 : Value) (h16 : Heap) =>
                  v15 = Value.tuple #[] ∧
                    CallsH Try.prog (31 : Nat) #[Value.pointer (some (Addr.mk b13 (0 : Nat) none))] h16 fun (v17 : Value) (h18 : Heap) =>
                      Ext h16 h18 ∧
                        ∃ (p19 : Option Addr),
                          ∃ (l20 : Nat),
                            ∃ (c21 : Nat),
                              ∃ (n22 : Int),
                                v17 = Value.tuple #[Value.slice p19 l20 c21, Value.int IntKind.i64 n22] ∧
                                  ∃ (I23 : Int → Heap → Prop),
                                    ∃ (μ24 : Int → Heap → Nat),
                                      I23 (0 : Int) h18 ∧
                                        ∀ (n25 : Int) (h26 : Heap),
                                          I23 n25 h26 →
                                            br (decide (n25 < (↑l20 : Int)))
                                              ((0 : Int) ≤ n25 ∧
                                                n25 < (↑l20 : Int) ∧
                                                  deref p19 fun (a27 : Addr) =>
                                                    ∃ (n28 : Int),
                                                      cell h26 (Addr.add a27 (Int.toNat n25 * (1 : Nat))) = some (Value.int IntKind.u8 n28) ∧
                                                        (0 : Int) ≤ n25 ∧
                                                          n25 < (↑l20 : Int) ∧
                                                            deref p19 fun (a29 : Addr) =>
                                                              storeP none h26 (Addr.add a29 (Int.toNat n25 * (1 : Nat))) (Value.int IntKind.u8 (IntKind.wrap IntKind.u8 (n28 + (1 : Int))))
                                                                fun (h30 : Heap) =>
                                                                I23 (IntKind.wrap IntKind.i64 (n25 + (1 : Int))) h30 ∧ μ24 (IntKind.wrap IntKind.i64 (n25 + (1 : Int))) h30 < μ24 n25 h26)
                                              (CallsH Try.prog (31 : Nat) #[Value.pointer (some (Addr.mk b13 (0 : Nat) none))] h26 fun (v31 : Value) (h32 : Heap) =>
                                                Ext h26 h32 ∧
                                                  ∃ (p33 : Option Addr),
                                                    ∃ (l34 : Nat),
                                                      ∃ (c35 : Nat),
                                                        ∃ (n36 : Int),
                                                          v31 = Value.tuple #[Value.slice p33 l34 c35, Value.int IntKind.i64 n36] ∧
                                                            CallsH Try.prog (32 : Nat) #[Value.slice b b_l b_c] h32 fun (v37 : Value) (h38 : Heap) =>
                                                              Ext h32 h38 ∧
                                                                ∃ (p39 : Option Addr),
                                                                  v37 = Value.pointer p39 ∧
                                                                    CallsH Try.prog (33 : Nat) #[Value.pointer p39, Value.int IntKind.i64 (↑b_l : Int)] h38 fun (v40 : Value) (h41 : Heap) =>
                                                                      ∃ (p42 : Option Addr),
                                                                        ∃ (l43 : Nat),
                                                                          ∃ (c44 : Nat),
                                                                            v40 = Value.slice p42 l43 c44 ∧
                                                                              ∃ (I45 : Int → Heap → Prop),
                                                                                ∃ (μ46 : Int → Heap → Nat),
                                                                                  I45 (0 : Int) h41 ∧
                                                                                    ∀ (n47 : Int) (h48 : Heap),
                                                                                      I45 n47 h48 →
                                                                                        br (decide (n47 < (↑l43 : Int)))
                                                                                          ((0 : Int) ≤ n47 ∧
                                                                                            n47 < (↑l43 : Int) ∧
                                                                                              deref p42 fun (a49 : Addr) =>
                                                                                                ∃ (n50 : Int),
                                                                                                  cell h48 (Addr.add a49 (Int.toNat n47 * (1 : Nat))) = some (Value.int IntKind.u8 n50) ∧
                                                                                                    (0 : Int) ≤ n47 ∧
                                                                                                      n47 < (↑l43 : Int) ∧
                                                                                                        deref p42 fun (a51 : Addr) =>
                                                                                                          storeP none h48 (Addr.add a51 (Int.toNat n47 * (1 : Nat)))
                                                                                                            (Value.int IntKind.u8 (IntKind.wrap IntKind.u8 (n50 + (1 : Int)))) fun (h52 : Heap) =>
                                                                                                            I45 (IntKind.wrap IntKind.i64 (n47 + (1 : Int))) h52 ∧
                                                                                                              μ46 (IntKind.wrap IntKind.i64 (n47 + (1 : Int))) h52 < μ46 n47 h48)
                                                                                          (CallsH Try.prog (34 : Nat) #[Value.slice p33 l34 c35, Value.slice p9 l10 c11] h48
                                                                                            fun (v53 : Value) (h54 : Heap) =>
                                                                                            Ext h48 h54 ∧
                                                                                              ∃ (t55 : Bool),
                                                                                                v53 = Value.bool t55 ∧
                                                                                                  br t55
                                                                                                    (CallsH Try.prog (34 : Nat) #[Value.slice b b_l b_c, Value.slice p9 l10 c11] h54
                                                                                                      fun (v56 : Value) (h57 : Heap) =>
                                                                                                      Ext h54 h57 ∧ ∃ (t58 : Bool), v56 = Value.bool t58 ∧ R (Value.bool t58) h57)
                                                                                                    (R (Value.bool false) h54)))))
theorem C3 (b : Option Addr) (b_l : Nat) (b_c : Nat) {h : Heap} {R : Value → Heap → Prop} (H : F3 b b_l b_c h R) : CallsH Go.Proofs.Try.prog 3 [(.slice b b_l b_c)].toArray h R :=
  fn_sound (A := A3) (Eq.mp (by kernel_rfl : F3 b b_l b_c h R = fnVc Go.Proofs.Try.prog A3 3 [(.slice b b_l b_c)] h R) H)

/- rolodex/rolodexlaw01.WireWrites -/
def A4 : Ann := { qs := [34, 35, 36, 38, 59, 63, 106, 118, 160, 102, 31, 32, 29, 60, 61, 62], loops := [(5, [(4, (.int .i64))])] }
def F4 (l : Option Addr) (l_l : Nat) (l_c : Nat) (h : Heap) (R : Value → Heap → Prop) : Prop :=
  CallsH Try.prog (29 : Nat) #[] h fun (v0 : Value) (h1 : Heap) =>
  Ext h h1 ∧
    ∃ (t2 : Bool),
      v0 = Value.bool t2 ∧
        br (!t2) (CallsH Try.prog (29 : Nat) #[] h1 fun (v3 : Value) (h4 : Heap) => Ext h1 h4 ∧ ∃ (t5 : Bool), v3 = Value.bool t5 ∧ R (Value.bool t5) h4)
          (CallsH Try.prog (35 : Nat) #[Value.slice l l_l l_c, Value.int IntKind.i64 (60 : Int)] h1 fun (v6 : Value) (h7 : Heap) =>
            Ext h1 h7 ∧
              ∃ (t8 : Bool),
                v6 = Value.bool t8 ∧
                  br (!t8) (CallsH Try.prog (29 : Nat) #[] h7 fun (v9 : Value) (h10 : Heap) => Ext h7 h10 ∧ ∃ (t11 : Bool), v9 = Value.bool t11 ∧ R (Value.bool t11) h10)
                    (CallsH Try.prog (36 : Nat) #[Value.slice l l_l l_c] h7 fun (v12 : Value) (h13 : Heap) =>
                      Ext h7 h13 ∧
                        ∃ (t14 : Bool),
                          v12 = Value.bool t14 ∧
                            br (!t14) (CallsH Try.prog (29 : Nat) #[] h13 fun (v15 : Value) (h16 : Heap) => Ext h13 h16 ∧ ∃ (t17 : Bool), v15 = Value.bool t17 ∧ R (Value.bool t17) h16)
                              (newBlk h13 (26 : Nat) #[Value.slice none (0 : Nat) (0 : Nat), Value.bool false] fun (b18 : Nat) (h19 : Heap) =>
                                ∃ (I20 : Int → Heap → Prop),
                                  ∃ (μ21 : Int → Heap → Nat),
                                    I20 (0 : Int) h19 ∧
                                      ∀ (n22 : Int) (h23 : Heap),
                                        I20 n22 h23 →
                                          br (decide (n22 < (↑l_l : Int)))
                                            ((0 : Int) ≤ n22 ∧
                                              n22 < (↑l_l : Int) ∧
                                                deref l fun (a24 : Addr) =>
                                                  ∃ (cs25 : Array Value),
                                                    row h23 (Addr.add a24 (Int.toNat n22 * (3 : Nat))) (3 : Nat) = some cs25 ∧
                                                      CallsH Try.prog (37 : Nat) #[Value.pointer (some (Addr.mk b18 (0 : Nat) none)), Value.agg cs25] h23 fun (v26 : Value) (h27 : Heap) =>
                                                        v26 = Value.tuple #[] ∧
                                                          I20 (IntKind.wrap IntKind.i64 (n22 + (1 : Int))) h27 ∧ μ21 (IntKind.wrap IntKind.i64 (n22 + (1 : Int))) h27 < μ21 n22 h23)
                                            (CallsH Try.prog (31 : Nat) #[Value.pointer (some (Addr.mk b18 (0 : Nat) none))] h23 fun (v28 : Value) (h29 : Heap) =>
                                              Ext h23 h29 ∧
                                                ∃ (p30 : Option Addr),
                                                  ∃ (l31 : Nat),
                                                    ∃ (c32 : Nat),
                                                      ∃ (n33 : Int),
                                                        v28 = Value.tuple #[Value.slice p30 l31 c32, Value.int IntKind.i64 n33] ∧
                                                          CallsH Try.prog (38 : Nat) #[Value.slice l l_l l_c] h29 fun (v34 : Value) (h35 : Heap) =>
                                                            Ext h29 h35 ∧
                                                              ∃ (p36 : Option Addr),
                                                                ∃ (l37 : Nat),
                                                                  ∃ (c38 : Nat),
                                                                    ∃ (t39 : Bool),
                                                                      v34 = Value.tuple #[Value.slice p36 l37 c38, Value.bool t39] ∧
                                                                        br ((n33 == (0 : Int)) == t39)
                                                                          (br (n33 == (0 : Int))
                                                                            (CallsH Try.prog (34 : Nat) #[Value.slice p30 l31 c32, Value.slice p36 l37 c38] h35 fun (v40 : Value) (h41 : Heap) =>
                                                                              Ext h35 h41 ∧ ∃ (t42 : Bool), v40 = Value.bool t42 ∧ R (Value.bool t42) h41)
                                                                            (br (n33 == (4 : Int))
                                                                              (CallsH Try.prog (34 : Nat) #[Value.slice p30 l31 c32, Value.slice p36 l37 c38] h35 fun (v43 : Value) (h44 : Heap) =>
                                                                                Ext h35 h44 ∧ ∃ (t45 : Bool), v43 = Value.bool t45 ∧ R (Value.bool t45) h44)
                                                                              (R (Value.bool false) h35)))
                                                                          (R (Value.bool false) h35)))))
theorem C4 (l : Option Addr) (l_l : Nat) (l_c : Nat) {h : Heap} {R : Value → Heap → Prop} (H : F4 l l_l l_c h R) : CallsH Go.Proofs.Try.prog 4 [(.slice l l_l l_c)].toArray h R :=
  fn_sound (A := A4) (Eq.mp (by kernel_rfl : F4 l l_l l_c h R = fnVc Go.Proofs.Try.prog A4 4 [(.slice l l_l l_c)] h R) H)

/- rolodex/rolodexlaw01.WireSpoiled -/
def A5 : Ann := { qs := [34, 35, 36, 38, 59, 63, 106, 118, 160, 102, 31, 32, 29, 60, 61, 62], loops := [(5, [(8, (.int .i64))]), (18, [(9, (.int .i64))])] }
def F5 (ahead : Option Addr) (ahead_l : Nat) (ahead_c : Nat) (behind : Option Addr) (behind_l : Nat) (behind_c : Nat) (x : Int) (h : Heap) (R : Value → Heap → Prop) : Prop :=
  CallsH Try.prog (29 : Nat) #[] h fun (v0 : Value) (h1 : Heap) =>
  Ext h h1 ∧
    ∃ (t2 : Bool),
      v0 = Value.bool t2 ∧
        br (!t2) (CallsH Try.prog (29 : Nat) #[] h1 fun (v3 : Value) (h4 : Heap) => Ext h1 h4 ∧ ∃ (t5 : Bool), v3 = Value.bool t5 ∧ R (Value.bool t5) h4)
          (CallsH Try.prog (35 : Nat) #[Value.slice ahead ahead_l ahead_c, Value.int IntKind.i64 (60 : Int)] h1 fun (v6 : Value) (h7 : Heap) =>
            Ext h1 h7 ∧
              ∃ (t8 : Bool),
                v6 = Value.bool t8 ∧
                  br (!t8) (CallsH Try.prog (29 : Nat) #[] h7 fun (v9 : Value) (h10 : Heap) => Ext h7 h10 ∧ ∃ (t11 : Bool), v9 = Value.bool t11 ∧ R (Value.bool t11) h10)
                    (CallsH Try.prog (35 : Nat) #[Value.slice behind behind_l behind_c, Value.int IntKind.i64 (60 : Int)] h7 fun (v12 : Value) (h13 : Heap) =>
                      Ext h7 h13 ∧
                        ∃ (t14 : Bool),
                          v12 = Value.bool t14 ∧
                            br (!t14) (CallsH Try.prog (29 : Nat) #[] h13 fun (v15 : Value) (h16 : Heap) => Ext h13 h16 ∧ ∃ (t17 : Bool), v15 = Value.bool t17 ∧ R (Value.bool t17) h16)
                              (newBlk h13 (26 : Nat) #[Value.slice none (0 : Nat) (0 : Nat), Value.bool false] fun (b18 : Nat) (h19 : Heap) =>
                                ∃ (I20 : Int → Heap → Prop),
                                  ∃ (μ21 : Int → Heap → Nat),
                                    I20 (0 : Int) h19 ∧
                                      ∀ (n22 : Int) (h23 : Heap),
                                        I20 n22 h23 →
                                          br (decide (n22 < (↑ahead_l : Int)))
                                            ((0 : Int) ≤ n22 ∧
                                              n22 < (↑ahead_l : Int) ∧
                                                deref ahead fun (a24 : Addr) =>
                                                  ∃ (cs25 : Array Value),
                                                    row h23 (Addr.add a24 (Int.toNat n22 * (3 : Nat))) (3 : Nat) = some cs25 ∧
                                                      CallsH Try.prog (37 : Nat) #[Value.pointer (some (Addr.mk b18 (0 : Nat) none)), Value.agg cs25] h23 fun (v26 : Value) (h27 : Heap) =>
                                                        v26 = Value.tuple #[] ∧
                                                          I20 (IntKind.wrap IntKind.i64 (n22 + (1 : Int))) h27 ∧ μ21 (IntKind.wrap IntKind.i64 (n22 + (1 : Int))) h27 < μ21 n22 h23)
                                            ((4 : Int) ≠ (0 : Int) ∧
                                              br (Int.tmod x (4 : Int) == (0 : Int))
                                                ((4 : Int) ≠ (0 : Int) ∧
                                                  CallsH Try.prog (39 : Nat)
                                                    #[Value.pointer (some (Addr.mk b18 (0 : Nat) none)),
                                                      Value.int IntKind.i64 (IntKind.wrap IntKind.i64 ((256 : Int) + IntKind.wrap IntKind.i64 (IntKind.wrap IntKind.u32 (Int.tdiv x (4 : Int)))))]
                                                    h23 fun (v28 : Value) (h29 : Heap) =>
                                                    v28 = Value.tuple #[] ∧
                                                      ∃ (I30 : Int → Heap → Prop),
                                                        ∃ (μ31 : Int → Heap → Nat),
                                                          I30 (0 : Int) h29 ∧
                                                            ∀ (n32 : Int) (h33 : Heap),
                                                              I30 n32 h33 →
                                                                br (decide (n32 < (↑behind_l : Int)))
                                                                  ((0 : Int) ≤ n32 ∧
                                                                    n32 < (↑behind_l : Int) ∧
                                                                      deref behind fun (a34 : Addr) =>
                                                                        ∃ (cs35 : Array Value),
                                                                          row h33 (Addr.add a34 (Int.toNat n32 * (3 : Nat))) (3 : Nat) = some cs35 ∧
                                                                            CallsH Try.prog (37 : Nat) #[Value.pointer (some (Addr.mk b18 (0 : Nat) none)), Value.agg cs35] h33
                                                                              fun (v36 : Value) (h37 : Heap) =>
                                                                              v36 = Value.tuple #[] ∧
                                                                                I30 (IntKind.wrap IntKind.i64 (n32 + (1 : Int))) h37 ∧
                                                                                  μ31 (IntKind.wrap IntKind.i64 (n32 + (1 : Int))) h37 < μ31 n32 h33)
                                                                  (CallsH Try.prog (31 : Nat) #[Value.pointer (some (Addr.mk b18 (0 : Nat) none))] h33 fun (v38 : Value) (h39 : Heap) =>
                                                                    Ext h33 h39 ∧
                                                                      ∃ (p40 : Option Addr),
                                                                        ∃ (l41 : Nat),
                                                                          ∃ (c42 : Nat),
                                                                            ∃ (n43 : Int),
                                                                              v38 = Value.tuple #[Value.slice p40 l41 c42, Value.int IntKind.i64 n43] ∧
                                                                                br (n43 == (4 : Int)) (R (Value.bool ((↑l41 : Int) == (0 : Int))) h39) (R (Value.bool false) h39)))
                                                (br (Int.tmod x (4 : Int) == (1 : Int))
                                                  ((4 : Int) ≠ (0 : Int) ∧
                                                    CallsH Try.prog (40 : Nat)
                                                      #[Value.pointer (some (Addr.mk b18 (0 : Nat) none)),
                                                        Value.int IntKind.i64 (IntKind.wrap IntKind.i64 ((-1 : Int) - IntKind.wrap IntKind.i64 (IntKind.wrap IntKind.u32 (Int.tdiv x (4 : Int)))))]
                                                      h23 fun (v44 : Value) (h45 : Heap) =>
                                                      v44 = Value.tuple #[] ∧
                                                        ∃ (I46 : Int → Heap → Prop),
                                                          ∃ (μ47 : Int → Heap → Nat),
                                                            I46 (0 : Int) h45 ∧
                                                              ∀ (n48 : Int) (h49 : Heap),
                                                                I46 n48 h49 →
                                                                  br (decide (n48 < (↑behind_l : Int)))
                                                                    ((0 : Int) ≤ n48 ∧
                                                                      n48 < (↑behind_l : Int) ∧
                                                                        deref behind fun (a50 : Addr) =>
                                                                          ∃ (cs51 : Array Value),
                                                                            row h49 (Addr.add a50 (Int.toNat n48 * (3 : Nat))) (3 : Nat) = some cs51 ∧
                                                                              CallsH Try.prog (37 : Nat) #[Value.pointer (some (Addr.mk b18 (0 : Nat) none)), Value.agg cs51] h49
                                                                                fun (v52 : Value) (h53 : Heap) =>
                                                                                v52 = Value.tuple #[] ∧
                                                                                  I46 (IntKind.wrap IntKind.i64 (n48 + (1 : Int))) h53 ∧
                                                                                    μ47 (IntKind.wrap IntKind.i64 (n48 + (1 : Int))) h53 < μ47 n48 h49)
                                                                    (CallsH Try.prog (31 : Nat) #[Value.pointer (some (Addr.mk b18 (0 : Nat) none))] h49 fun (v54 : Value) (h55 : Heap) =>
                                                                      Ext h49 h55 ∧
                                                                        ∃ (p56 : Option Addr),
                                                                          ∃ (l57 : Nat),
                                                                            ∃ (c58 : Nat),
                                                                              ∃ (n59 : Int),
                                                                                v54 = Value.tuple #[Value.slice p56 l57 c58, Value.int IntKind.i64 n59] ∧
                                                                                  br (n59 == (4 : Int)) (R (Value.bool ((↑l57 : Int) == (0 : Int))) h55) (R (Value.bool false) h55)))
                                                  (br (Int.tmod x (4 : Int) == (2 : Int))
                                                    ((4 : Int) ≠ (0 : Int) ∧
                                                      CallsH Try.prog (41 : Nat)
                                                        #[Value.pointer (some (Addr.mk b18 (0 : Nat) none)),
                                                          Value.int IntKind.i64 (IntKind.wrap IntKind.i64 ((4097 : Int) + IntKind.wrap IntKind.i64 (IntKind.wrap IntKind.u32 (Int.tdiv x (4 : Int)))))]
                                                        h23 fun (v60 : Value) (h61 : Heap) =>
                                                        v60 = Value.tuple #[] ∧
                                                          ∃ (I62 : Int → Heap → Prop),
                                                            ∃ (μ63 : Int → Heap → Nat),
                                                              I62 (0 : Int) h61 ∧
                                                                ∀ (n64 : Int) (h65 : Heap),
                                                                  I62 n64 h65 →
                                                                    br (decide (n64 < (↑behind_l : Int)))
                                                                      ((0 : Int) ≤ n64 ∧
                                                                        n64 < (↑behind_l : Int) ∧
                                                                          deref behind fun (a66 : Addr) =>
                                                                            ∃ (cs67 : Array Value),
                                                                              row h65 (Addr.add a66 (Int.toNat n64 * (3 : Nat))) (3 : Nat) = some cs67 ∧
                                                                                CallsH Try.prog (37 : Nat) #[Value.pointer (some (Addr.mk b18 (0 : Nat) none)), Value.agg cs67] h65
                                                                                  fun (v68 : Value) (h69 : Heap) =>
                                                                                  v68 = Value.tuple #[] ∧
                                                                                    I62 (IntKind.wrap IntKind.i64 (n64 + (1 : Int))) h69 ∧
                                                                                      μ63 (IntKind.wrap IntKind.i64 (n64 + (1 : Int))) h69 < μ63 n64 h65)
                                                                      (CallsH Try.prog (31 : Nat) #[Value.pointer (some (Addr.mk b18 (0 : Nat) none))] h65 fun (v70 : Value) (h71 : Heap) =>
                                                                        Ext h65 h71 ∧
                                                                          ∃ (p72 : Option Addr),
                                                                            ∃ (l73 : Nat),
                                                                              ∃ (c74 : Nat),
                                                                                ∃ (n75 : Int),
                                                                                  v70 = Value.tuple #[Value.slice p72 l73 c74, Value.int IntKind.i64 n75] ∧
                                                                                    br (n75 == (4 : Int)) (R (Value.bool ((↑l73 : Int) == (0 : Int))) h71) (R (Value.bool false) h71)))
                                                    (br (Int.tmod x (4 : Int) == (3 : Int))
                                                      (makeP (5 : Nat) (1 : Nat) (1 : Nat) #[Value.int IntKind.u8 (0 : Int)] (8193 : Int) (8193 : Int) h23 fun (b76 : Nat) (h77 : Heap) =>
                                                        CallsH Try.prog (42 : Nat)
                                                          #[Value.pointer (some (Addr.mk b18 (0 : Nat) none)), Value.slice (some (Addr.mk b76 (0 : Nat) none)) (8193 : Nat) (8193 : Nat)] h77
                                                          fun (v78 : Value) (h79 : Heap) =>
                                                          v78 = Value.tuple #[] ∧
                                                            ∃ (I80 : Int → Heap → Prop),
                                                              ∃ (μ81 : Int → Heap → Nat),
                                                                I80 (0 : Int) h79 ∧
                                                                  ∀ (n82 : Int) (h83 : Heap),
                                                                    I80 n82 h83 →
                                                                      br (decide (n82 < (↑behind_l : Int)))
                                                                        ((0 : Int) ≤ n82 ∧
                                                                          n82 < (↑behind_l : Int) ∧
                                                                            deref behind fun (a84 : Addr) =>
                                                                              ∃ (cs85 : Array Value),
                                                                                row h83 (Addr.add a84 (Int.toNat n82 * (3 : Nat))) (3 : Nat) = some cs85 ∧
                                                                                  CallsH Try.prog (37 : Nat) #[Value.pointer (some (Addr.mk b18 (0 : Nat) none)), Value.agg cs85] h83
                                                                                    fun (v86 : Value) (h87 : Heap) =>
                                                                                    v86 = Value.tuple #[] ∧
                                                                                      I80 (IntKind.wrap IntKind.i64 (n82 + (1 : Int))) h87 ∧
                                                                                        μ81 (IntKind.wrap IntKind.i64 (n82 + (1 : Int))) h87 < μ81 n82 h83)
                                                                        (CallsH Try.prog (31 : Nat) #[Value.pointer (some (Addr.mk b18 (0 : Nat) none))] h83 fun (v88 : Value) (h89 : Heap) =>
                                                                          Ext h83 h89 ∧
                                                                            ∃ (p90 : Option Addr),
                                                                              ∃ (l91 : Nat),
                                                                                ∃ (c92 : Nat),
                                                                                  ∃ (n93 : Int),
                                                                                    v88 = Value.tuple #[Value.slice p90 l91 c92, Value.int IntKind.i64 n93] ∧
                                                                                      br (n93 == (4 : Int)) (R (Value.bool ((↑l91 : Int) == (0 : Int))) h89) (R (Value.bool false) h89)))
                                                      (∃ (I94 : Int → Heap → Prop),
                                                        ∃ (μ95 : Int → Heap → Nat),
                                                          I94 (0 : Int) h23 ∧
                                                            ∀ (n96 : Int) (h97 : Heap),
                                                              I94 n96 h97 →
                                                                br (decide (n96 < (↑behind_l : Int)))
                                                                  ((0 : Int) ≤ n96 ∧
                                                                    n96 < (↑behind_l : Int) ∧
                                                                      deref behind fun (a98 : Addr) =>
                                                                        ∃ (cs99 : Array Value),
                                                                          row h97 (Addr.add a98 (Int.toNat n96 * (3 : Nat))) (3 : Nat) = some cs99 ∧
                                                                            CallsH Try.prog (37 : Nat) #[Value.pointer (some (Addr.mk b18 (0 : Nat) none)), Value.agg cs99] h97
                                                                              fun (v100 : Value) (h101 : Heap) =>
                                                                              v100 = Value.tuple #[] ∧
                                                                                I94 (IntKind.wrap IntKind.i64 (n96 + (1 : Int))) h101 ∧
                                                                                  μ95 (IntKind.wrap IntKind.i64 (n96 + (1 : Int))) h101 < μ95 n96 h97)
                                                                  (CallsH Try.prog (31 : Nat) #[Value.pointer (some (Addr.mk b18 (0 : Nat) none))] h97 fun (v102 : Value) (h103 : Heap) =>
                                                                    Ext h97 h103 ∧
                                                                      ∃ (p104 : Option Addr),
                                                                        ∃ (l105 : Nat),
                                                                          ∃ (c106 : Nat),
                                                                            ∃ (n107 : Int),
                                                                              v102 = Value.tuple #[Value.slice p104 l105 c106, Value.int IntKind.i64 n107] ∧
                                                                                br (n107 == (4 : Int)) (R (Value.bool ((↑l105 : Int) == (0 : Int))) h103) (R (Value.bool false) h103))))))))))
theorem C5 (ahead : Option Addr) (ahead_l : Nat) (ahead_c : Nat) (behind : Option Addr) (behind_l : Nat) (behind_c : Nat) (x : Int) {h : Heap} {R : Value → Heap → Prop} (H : F5 ahead ahead_l ahead_c behind behind_l behind_c x h R) : CallsH Go.Proofs.Try.prog 5 [(.slice ahead ahead_l ahead_c), (.slice behind behind_l behind_c), (.int .u32 x)].toArray h R :=
  fn_sound (A := A5) (Eq.mp (by kernel_rfl : F5 ahead ahead_l ahead_c behind behind_l behind_c x h R = fnVc Go.Proofs.Try.prog A5 5 [(.slice ahead ahead_l ahead_c), (.slice behind behind_l behind_c), (.int .u32 x)] h R) H)

/- rolodex/rolodexlaw01.WireReads -/
def A11 : Ann := { qs := [34, 35, 36, 38, 59, 63, 106, 118, 160, 102, 31, 32, 29, 60, 61, 62], loops := [(6, [(6, .slice), (7, .bool), (8, (.int .i64))])] }
def F11 (b : Option Addr) (b_l : Nat) (b_c : Nat) (kinds : Option Addr) (kinds_l : Nat) (kinds_c : Nat) (h : Heap) (R : Value → Heap → Prop) : Prop :=
  CallsH Try.prog (29 : Nat) #[] h fun (v0 : Value) (h1 : Heap) =>
  Ext h h1 ∧
    ∃ (t2 : Bool),
      v0 = Value.bool t2 ∧
        br (!t2) (CallsH Try.prog (29 : Nat) #[] h1 fun (v3 : Value) (h4 : Heap) => Ext h1 h4 ∧ ∃ (t5 : Bool), v3 = Value.bool t5 ∧ R (Value.bool t5) h4)
          (CallsH Try.prog (35 : Nat) #[Value.slice kinds kinds_l kinds_c, Value.int IntKind.i64 (60 : Int)] h1 fun (v6 : Value) (h7 : Heap) =>
            Ext h1 h7 ∧
              ∃ (t8 : Bool),
                v6 = Value.bool t8 ∧
                  br (!t8) (CallsH Try.prog (29 : Nat) #[] h7 fun (v9 : Value) (h10 : Heap) => Ext h7 h10 ∧ ∃ (t11 : Bool), v9 = Value.bool t11 ∧ R (Value.bool t11) h10)
                    (CallsH Try.prog (36 : Nat) #[Value.slice kinds kinds_l kinds_c] h7 fun (v12 : Value) (h13 : Heap) =>
                      Ext h7 h13 ∧
                        ∃ (t14 : Bool),
                          v12 = Value.bool t14 ∧
                            br (!t14) (CallsH Try.prog (29 : Nat) #[] h13 fun (v15 : Value) (h16 : Heap) => Ext h13 h16 ∧ ∃ (t17 : Bool), v15 = Value.bool t17 ∧ R (Value.bool t17) h16)
                              (br (decide ((↑b_l : Int) > (9000 : Int)))
                                (CallsH Try.prog (29 : Nat) #[] h13 fun (v18 : Value) (h19 : Heap) => Ext h13 h19 ∧ ∃ (t20 : Bool), v18 = Value.bool t20 ∧ R (Value.bool t20) h19)
                                (CallsH Try.prog (32 : Nat) #[Value.slice b b_l b_c] h13 fun (v21 : Value) (h22 : Heap) =>
                                  Ext h13 h22 ∧
                                    ∃ (p23 : Option Addr),
                                      v21 = Value.pointer p23 ∧
                                        ∃ (I24 : (Option Addr × Nat × Nat) × Bool × Int → Heap → Prop),
                                          ∃ (μ25 : (Option Addr × Nat × Nat) × Bool × Int → Heap → Nat),
                                            I24 ((b, b_l, b_c), false, (0 : Int)) h22 ∧
                                              ∀ (s26 : (Option Addr × Nat × Nat) × Bool × Int) (h27 : Heap),
                                                I24 s26 h27 →
                                                  br (decide (Prod.snd (Prod.snd s26) < (↑kinds_l : Int)))
                                                    ((0 : Int) ≤ Prod.snd (Prod.snd s26) ∧
                                                      Prod.snd (Prod.snd s26) < (↑kinds_l : Int) ∧
                                                        deref kinds fun (a28 : Addr) =>
                                                          ∃ (cs29 : Array Value),
                                                            row h27 (Addr.add a28 (Int.toNat (Prod.snd (Prod.snd s26)) * (3 : Nat))) (3 : Nat) = some cs29 ∧
                                                              newBlk h27 (42 : Nat) #[Value.int IntKind.i64 (0 : Int), Value.int IntKind.u64 (0 : Int), Value.slice none (0 : Nat) (0 : Nat)]
                                                                fun (b30 : Nat) (h31 : Heap) =>
                                                                storeP (some (3 : Nat)) h31 (Addr.mk b30 (0 : Nat) none) (Value.agg cs29) fun (h32 : Heap) =>
                                                                  ∃ (n33 : Int),
                                                                    cell h32 (Addr.add (Addr.mk b30 (0 : Nat) none) (0 : Nat)) = some (Value.int IntKind.i64 n33) ∧
                                                                      br (decide (n33 < (1 : Int)))
                                                                        (I24
                                                                            ((Prod.fst (Prod.fst s26), Prod.fst (Prod.snd (Prod.fst s26)), Prod.snd (Prod.snd (Prod.fst s26))), Prod.fst (Prod.snd s26),
                                                                              IntKind.wrap IntKind.i64 (Prod.snd (Prod.snd s26) + (1 : Int)))
                                                                            h32 ∧
                                                                          μ25
                                                                              ((Prod.fst (Prod.fst s26), Prod.fst (Prod.snd (Prod.fst s26)), Prod.snd (Prod.snd (Prod.fst s26))),
                                                                                Prod.fst (Prod.snd s26), IntKind.wrap IntKind.i64 (Prod.snd (Prod.snd s26) + (1 : Int)))
                                                                              h32 <
                                                                            μ25 s26 h27)
                                                                        (∃ (n34 : Int),
                                                                          cell h32 (Addr.add (Addr.mk b30 (0 : Nat) none) (0 : Nat)) = some (Value.int IntKind.i64 n34) ∧
                                                                            br (decide (n34 > (8 : Int)))
                                                                              (I24
                                                                                  ((Prod.fst (Prod.fst s26), Prod.fst (Prod.snd (Prod.fst s26)), Prod.snd (Prod.snd (Prod.fst s26))),
                                                                                    Prod.fst (Prod.snd s26), IntKind.wrap IntKind.i64 (Prod.snd (Prod.snd s26) + (1 : Int)))
                                                                                  h32 ∧
                                                                                μ25
                                                                                    ((Prod.fst (Prod.fst s26), Prod.fst (Prod.snd (Prod.fst s26)), Prod.snd (Prod.snd (Prod.fst s26))),
                                                                                      Prod.fst (Prod.snd s26), IntKind.wrap IntKind.i64 (Prod.snd (Prod.snd s26) + (1 : Int)))
                                                                                    h32 <
                                                                                  μ25 s26 h27)
                                                                              (∃ (n35 : Int),
                                                                                cell h32 (Addr.add (Addr.mk b30 (0 : Nat) none) (0 : Nat)) = some (Value.int IntKind.i64 n35) ∧
                                                                                  ∃ (n36 : Int),
                                                                                    cell h32 (Addr.add (Addr.mk b30 (0 : Nat) none) (1 : Nat)) = some (Value.int IntKind.u64 n36) ∧
                                                                                      CallsH Try.prog (58 : Nat) #[Value.pointer p23, Value.int IntKind.i64 n35, Value.int IntKind.u64 n36] h32
                                                                                        fun (v37 : Value) (h38 : Heap) =>
                                                                                        ∃ (cs39 : Array Value),
                                                                                          Array.size cs39 = (3 : Nat) ∧
                                                                                            v37 = Value.agg cs39 ∧
                                                                                              newBlk h38 (42 : Nat)
                                                                                                #[Value.int IntKind.i64 (0 : Int), Value.int IntKind.u64 (0 : Int),
                                                                                                  Value.slice none (0 : Nat) (0 : Nat)]
                                                                                                fun (b40 : Nat) (h41 : Heap) =>
                                                                                                storeP (some (3 : Nat)) h41 (Addr.mk b40 (0 : Nat) none) (Value.agg cs39) fun (h42 : Heap) =>
                                                                                                  ∃ (n43 : Int),
                                                                                                    cell h42 (Addr.add (Addr.mk b30 (0 : Nat) none) (0 : Nat)) = some (Value.int IntKind.i64 n43) ∧
                                                                                                      ∃ (n44 : Int),
                                                                                                        cell h42 (Addr.add (Addr.mk b30 (0 : Nat) none) (1 : Nat)) = some (Value.int IntKind.u64 n44) ∧
                                                                                                          CallsH Try.prog (59 : Nat)
                                                                                                            #[Value.slice (Prod.fst (Prod.fst s26)) (Prod.fst (Prod.snd (Prod.fst s26)))
                                                                                                                (Prod.snd (Prod.snd (Prod.fst s26))),
                                                                                                              Value.int IntKind.i64 n43, Value.int IntKind.u64 n44]
                                                                                                            h42 fun (v45 : Value) (h46 : Heap) =>
                                                                                                            Ext h42 h46 ∧
                                                                                                              ∃ (cs47 : Array Value),
                                                                                                                Array.size cs47 = (3 : Nat) ∧
                                                                                                                  ∃ (p48 : Option Addr),
                                                                                                                    ∃ (l49 : Nat),
                                                                                                                      ∃ (c50 : Nat),
                                                                                                                        ∃ (t51 : Bool),
                                                                                                                          v45 = Value.tuple #[Value.agg cs47, Value.slice p48 l49 c50, Value.bool t51] ∧
                                                                                                                            newBlk h46 (42 : Nat)
                                                                                                                              #[Value.int IntKind.i64 (0 : Int), Value.int IntKind.u64 (0 : Int),
                                                                                                                                Value.slice none (0 : Nat) (0 : Nat)]
                                                                                                                              fun (b52 : Nat) (h53 : Heap) =>
                                                                                                                              storeP (some (3 : Nat)) h53 (Addr.mk b52 (0 : Nat) none) (Value.agg cs47)
                                                                                                                                fun (h54 : Heap) =>
                                                                                                                                br (Prod.fst (Prod.snd s26))
                                                                                                                                  (storeP (some (3 : Nat)) h54 (Addr.mk b52 (0 : Nat) none)
                                                                                                                                    (Value.agg
                                                                                                                                      #[Value.int IntKind.i64 (0 : Int),
                                                                                                                                        Value.int IntKind.u64 (0 : Int),
                                                                                                                                        Value.slice none (0 : Nat) (0 : Nat)])
                                                                                                                                    fun (h55 : Heap) =>
                                                                                                                                    ∃ (n56 : Int),
                                                                                                                                      cell h55 (Addr.add (Addr.mk b40 (0 : Nat) none) (1 : Nat)) =
                                                                                                                                          some (Value.int IntKind.u64 n56) ∧
                                                                                                                                        ∃ (n57 : Int),
                                                                                                                                          cell h55 (Addr.add (Addr.mk b52 (0 : Nat) none) (1 : Nat)) =
                                                                                                                                              some (Value.int IntKind.u64 n57) ∧
                                                                                                                                            br (n56 != n57) (R (Value.bool false) h55)
                                                                                                                                              (∃ (p58 : Option Addr),
                                                                                                                                                ∃ (l59 : Nat),
                                                                                                                                                  ∃ (c60 : Nat),
                                                                                                                                                    cell h55
                                                                                                                                                          (Addr.add (Addr.mk b40 (0 : Nat) none)
                                                                                                                                                            (2 : Nat)) =
                                                                                                                                                        some (Value.slice p58 l59 c60) ∧
                                                                                                                                                      ∃ (p61 : Option Addr),
                                                                                                                                                        ∃ (l62 : Nat),
                                                                                                                                                          ∃ (c63 : Nat),
                                                                                                                                                            cell h55
                                                                                                                                                                  (Addr.add (Addr.mk b52 (0 : Nat) none)
                                                                                                                                                                    (2 : Nat)) =
                                                                                                                                                                some (Value.slice p61 l62 c63) ∧
                                                                                                                                                              CallsH Try.prog (34 : Nat)
                                                                                                                                                                #[Value.slice p58 l59 c60,
                                                                                                                                                                  Value.slice p61 l62 c63]
                                                                                                                                                                h55 fun (v64 : Value) (h65 : Heap) =>
                                                                                                                                                                Ext h55 h65 ∧
                                                                                                                                                                  ∃ (t66 : Bool),
                                                                                                                                                                    v64 = Value.bool t66 ∧
                                                                                                                                                                      br (!t66)
                                                                                                                                                                        (R (Value.bool false) h65)
                                                                                                                                                                        (CallsH Try.prog (60 : Nat)
                                                                                                                                                                          #[Value.pointer p23] h65
                                                                                                                                                                          fun (v67 : Value)
                                                                                                                                                                            (h68 : Heap) =>
                                                                                                                                                                          Ext h65 h68 ∧
                                                                                                                                                                            ∃ (t69 : Bool),
                                                                                                                                                                              v67 = Value.bool t69 ∧
                                                                                                                                                                                br (!t69 == true)
                                                                                                                                                                                  (R (Value.bool false)
                                                                                                                                                                                    h68)
                                                                                                                                                                                  (CallsH Try.prog
                                                                                                                                                                                    (61 : Nat)
                                                                                                                                                                                    #[Value.pointer p23]
                                                                                                                                                                                    h68
                                                                                                                                                                                    fun (v70 : Value)
                                                                                                                                                                                      (h71 : Heap) =>
                                                                                                                                                                                    Ext h68 h71 ∧
                                                                                                                                                                                      ∃ (n72 : Int),
                                                                                                                                                                                        v70 =
                                                                                                                                                                                            Value.int
                                                                                                                                                                                              IntKind.i64
                                                                                                                                                                                              n72 ∧
                                                                                                                                                                                          br
                                                                                                                                                                                            (n72 !=
                                                                                                                                                                                              (↑(Prod.fst
                                                                                                                                                                                                    (Prod.snd
                                                                                                                                                                                                      (Prod.fst
                                                                                                                                                                                                        s26))) :
                                                                                                                                                                                                Int))
                                                                                                                                                                                            (R
                                                                                                                                                                                              (Value.bool
                                                                                                                                                                                                false)
                                                                                                                                                                                              h71)
                                                                                                                                                                                            (CallsH
                                                                                                                                                                                              Try.prog
                                                                                                                                                                                              (62 : Nat)
                                                                                                                                                                                              #[Value.pointer
                                                                                                                                                                                                  p23]
                                                                                                                                                                                              h71
                                                                                                                                                                                              fun
                                                                                                                                                                                                (v73 :
                                                                                                                                                                                                  Value)
                                                                                                                                                                                                (h74 :
                                                                                                                                                                                                  Heap) =>
                                                                                                                                                                                              Ext h71
                                                                                                                                                                                                  h74 ∧
                                                                                                                                                                                                ∃ (t75 :
                                                                                                                                                                                                  Bool),
                                                                                                                                                                                                  v73 =
                                                                                                                                                                                                      Value.bool
                                                                                                                                                                                                        t75 ∧
                                                                                                                                                                                                    br
                                                                                                                                                                                                      (!t75 ==
                                                                                                                                                                                                          false)
                                                                                                                                                                                                      (R
                                                                                                                                                                                                        (Value.bool
                                                                                                                                                                                                          false)
                                                                                                                                                                                                        h74)
                                                                                                                                                                                                      (I24
                                                                                                                                                                                                          ((Prod.fst
                                                                                                                                                                                                                (Prod.fst
                                                                                                                                                                                                                  s26),
                                                                                                                                                                                                              Prod.fst
                                                                                                                                                                                                                (Prod.snd
                                                                                                                                                                                                                  (Prod.fst
                                                                                                                                                                                                                    s26)),
                                                                                                                                                                                                              Prod.snd
                                                                                                                                                                                                                (Prod.snd
                                                                                                                                                                                                                  (Prod.fst
                                                                                                                                                                                                                    s26))),
                                                                                                                                                                                                            true,
                                                                                                                                                                                                            IntKind.wrap
                                                                                                                                                                                                              IntKind.i64
                                                                                                                                                                                                              (Prod.snd
                                                                                                                                                                                                                  (Prod.snd
                                                                                                                                                                                                                    s26) +
                                                                                                                                                                                                                (1 :
                                                                                                                                                                                                                  Int)))
                                                                                                                                                                                                          h74 ∧
                                                                                                                                                                                                        μ25
                                                                                                                                                                                                            ((Prod.fst
                                                                                                                                                                                                                  (Prod.fst
                                                                                                                                                                                                                    s26),
                                                                                                                                                                                                                Prod.fst
                                                                                                                                                                                                                  (Prod.snd
                                                                                                                                                                                                                    (Prod.fst
                                                                                                                                                                                                                      s26)),
                                                                                                                                                                                                                Prod.snd
                                                                                                                                                                                                                  (Prod.snd
                                                                                                                                                                                                                    (Prod.fst
                                                                                                                                                                                                                      s26))),
                                                                                                                                                                                                              true,
                                                                                                                                                                                                              IntKind.wrap
                                                                                                                                                                                                                IntKind.i64
                                                                                                                                                                                                                (Prod.snd
                                                                                                                                                                                                                    (Prod.snd
                                                                                                                                                                                                                      s26) +
                                                                                                                                                                                                                  (1 :
                                                                                                                                                                                                                    Int)))
                                                                                                                                                                                                            h74 <
                                                                                                                                                                                                          μ25
                                                                                                                                                                                                            s26
                                                                                                                                                                                                            h27))))))
                                                                                                                                  (br (!t51)
                                                                                                                                    (storeP (some (3 : Nat)) h54 (Addr.mk b52 (0 : Nat) none)
                                                                                                                                      (Value.agg
                                                                                                                                        #[Value.int IntKind.i64 (0 : Int),
                                                                                                                                          Value.int IntKind.u64 (0 : Int),
                                                                                                                                          Value.slice none (0 : Nat) (0 : Nat)])
                                                                                                                                      fun (h76 : Heap) =>
                                                                                                                                      ∃ (n77 : Int),
                                                                                                                                        cell h76 (Addr.add (Addr.mk b40 (0 : Nat) none) (1 : Nat)) =
                                                                                                                                            some (Value.int IntKind.u64 n77) ∧
                                                                                                                                          ∃ (n78 : Int),
                                                                                                                                            cell h76 (Addr.add (Addr.mk b52 (0 : Nat) none) (1 : Nat)) =
                                                                                                                                                some (Value.int IntKind.u64 n78) ∧
                                                                                                                                              br (n77 != n78) (R (Value.bool false) h76)
                                                                                                                                                (∃ (p79 : Option Addr),
                                                                                                                                                  ∃ (l80 : Nat),
                                                                                                                                                    ∃ (c81 : Nat),
                                                                                                                                                      cell h76
                                                                                                                                                            (Addr.add (Addr.mk b40 (0 : Nat) none)
                                                                                                                                                              (2 : Nat)) =
                                                                                                                                                          some (Value.slice p79 l80 c81) ∧
                                                                                                                                                        ∃ (p82 : Option Addr),
                                                                                                                                                          ∃ (l83 : Nat),
                                                                                                                                                            ∃ (c84 : Nat),
                                                                                                                                                              cell h76
                                                                                                                                                                    (Addr.add
                                                                                                                                                                      (Addr.mk b52 (0 : Nat) none)
                                                                                                                                                                      (2 : Nat)) =
                                                                                                                                                                  some (Value.slice p82 l83 c84) ∧
                                                                                                                                                                CallsH Try.prog (34 : Nat)
                                                                                                                                                                  #[Value.slice p79 l80 c81,
                                                                                                                                                                    Value.slice p82 l83 c84]
                                                                                                                                                                  h76 fun (v85 : Value) (h86 : Heap) =>
                                                                                                                                                                  Ext h76 h86 ∧
                                                                                                                                                                    ∃ (t87 : Bool),
                                                                                                                                                                      v85 = Value.bool t87 ∧
                                                                                                                                                                        br (!t87)
                                                                                                                                                                          (R (Value.bool false) h86)
                                                                                                                                                                          (CallsH Try.prog (60 : Nat)
                                                                                                                                                                            #[Value.pointer p23] h86
                                                                                                                                                                            fun (v88 : Value)
                                                                                                                                                                              (h89 : Heap) =>
                                                                                                                                                                            Ext h86 h89 ∧
                                                                                                                                                                              ∃ (t90 : Bool),
                                                                                                                                                                                v88 = Value.bool t90 ∧
                                                                                                                                                                                  br (!t90 == true)
                                                                                                                                                                                    (R
                                                                                                                                                                                      (Value.bool false)
                                                                                                                                                                                      h89)
                                                                                                                                                                                    (CallsH Try.prog
                                                                                                                                                                                      (61 : Nat)
                                                                                                                                                                                      #[Value.pointer
                                                                                                                                                                                          p23]
                                                                                                                                                                                      h89
                                                                                                                                                                                      fun (v91 : Value)
                                                                                                                                                                                        (h92 : Heap) =>
                                                                                                                                                                                      Ext h89 h92 ∧
                                                                                                                                                                                        ∃ (n93 : Int),
                                                                                                                                                                                          v91 =
                                                                                                                                                                                              Value.int
                                                                                                                                                                                                IntKind.i64
                                                                                                                                                                                                n93 ∧
                                                                                                                                                                                            br
                                                                                                                                                                                              (n93 !=
                                                                                                                                                                                                (↑(Prod.fst
                                                                                                                                                                                                      (Prod.snd
                                                                                                                                                                                                        (Prod.fst
                                                                                                                                                                                                          s26))) :
                                                                                                                                                                                                  Int))
                                                                                                                                                                                              (R
                                                                                                                                                                                                (Value.bool
                                                                                                                                                                                                  false)
                                                                                                                                                                                                h92)
                                                                                                                                                                                              (CallsH
                                                                                                                                                                                                Try.prog
                                                                                                                                                                                                (62 :
                                                                                                                                                                                                  Nat)
                                                                                                                                                                                                #[Value.pointer
                                                                                                                                                                                                    p23]
                                                                                                                                                                                                h92
                                                                                                                                                                                                fun
                                                                                                                                                                                                  (v94 :
                                                                                                                                                                                                    Value)
                                                                                                                                                                                                  (h95 :
                                                                                                                                                                                                    Heap) =>
                                                                                                                                                                                                Ext h92
                                                                                                                                                                                                    h95 ∧
                                                                                                                                                                                                  ∃ (t96
                                                                                                                                                                                                    :
                                                                                                                                                                                                    Bool),
                                                                                                                                                                                                    v94 =
                                                                                                                                                                                                        Value.bool
                                                                                                                                                                                                          t96 ∧
                                                                                                                                                                                                      br
                                                                                                                                                                                                        (!t96 ==
                                                                                                                                                                                                            false)
                                                                                                                                                                                                        (R
                                                                                                                                                                                                          (Value.bool
                                                                                                                                                                                                            false)
                                                                                                                                                                                                          h95)
                                                                                                                                                                                                        (I24
                                                                                                                                                                                                            ((Prod.fst
                                                                                                                                                                                                                  (Prod.fst
                                                                                                                                                                                                                    s26),
                                                                                                                                                                                                                Prod.fst
                                                                                                                                                                                                                  (Prod.snd
                                                                                                                                                                                                                    (Prod.fst
                                                                                                                                                                                                                      s26)),
                                                                                                                                                                                                                Prod.snd
                                                                                                                                                                                                                  (Prod.snd
                                                                                                                                                                                                                    (Prod.fst
                                                                                                                                                                                                                      s26))),
                                                                                                                                                                                                              true,
                                                                                                                                                                                                              IntKind.wrap
                                                                                                                                                                                                                IntKind.i64
                                                                                                                                                                                                                (Prod.snd
                                                                                                                                                                                                                    (Prod.snd
                                                                                                                                                                                                                      s26) +
                                                                                                                                                                                                                  (1 :
                                                                                                                                                                                                                    Int)))
                                                                                                                                                                                                            h95 ∧
                                                                                                                                                                                                          μ25
                                                                                                                                                                                                              ((Prod.fst
                                                                                                                                                                                                                    (Prod.fst
                                                                                                                                                                                                                      s26),
                                                                                                                                                                                                                  Prod.fst
                                                                                                                                                                                                                    (Prod.snd
                                                                                                                                                                                                                      (Prod.fst
                                                                                                                                                                                                                        s26)),
                                                                                                                                                                                                                  Prod.snd
                                                                                                                                                                                                                    (Prod.snd
                                                                                                                                                                                                                      (Prod.fst
                                                                                                                                                                                                                        s26))),
                                                                                                                                                                                                                true,
                                                                                                                                                                                                                IntKind.wrap
                                                                                                                                                                                                                  IntKind.i64
                                                                                                                                                                                                                  (Prod.snd
                                                                                                                                                                                                                      (Prod.snd
                                                                                                                                                                                                                        s26) +
                                                                                                                                                                                                                    (1 :
                                                                                                                                                                                                                      Int)))
                                                                                                                                                                                                              h95 <
                                                                                                                                                                                                            μ25
                                                                                                                                                                                                              s26
                                                                                                                                                                                                              h27))))))
                                                                                                                                    (∃ (n97 : Int),
                                                                                                                                      cell h54 (Addr.add (Addr.mk b40 (0 : Nat) none) (1 : Nat)) =
                                                                                                                                          some (Value.int IntKind.u64 n97) ∧
                                                                                                                                        ∃ (n98 : Int),
                                                                                                                                          cell h54 (Addr.add (Addr.mk b52 (0 : Nat) none) (1 : Nat)) =
                                                                                                                                              some (Value.int IntKind.u64 n98) ∧
                                                                                                                                            br (n97 != n98) (R (Value.bool false) h54)
                                                                                                                                              (∃ (p99 : Option Addr),
                                                                                                                                                ∃ (l100 : Nat),
                                                                                                                                                  ∃ (c101 : Nat),
                                                                                                                                                    cell h54
                                                                                                                                                          (Addr.add (Addr.mk b40 (0 : Nat) none)
                                                                                                                                                            (2 : Nat)) =
                                                                                                                                                        some (Value.slice p99 l100 c101) ∧
                                                                                                                                                      ∃ (p102 : Option Addr),
                                                                                                                                                        ∃ (l103 : Nat),
                                                                                                                                                          ∃ (c104 : Nat),
                                                                                                                                                            cell h54
                                                                                                                                                                  (Addr.add (Addr.mk b52 (0 : Nat) none)
                                                                                                                                                                    (2 : Nat)) =
                                                                                                                                                                some (Value.slice p102 l103 c104) ∧
                                                                                                                                                              CallsH Try.prog (34 : Nat)
                                                                                                                                                                #[Value.slice p99 l100 c101,
                                                                                                                                                                  Value.slice p102 l103 c104]
                                                                                                                                                                h54 fun (v105 : Value) (h106 : Heap) =>
                                                                                                                                                                Ext h54 h106 ∧
                                                                                                                                                                  ∃ (t107 : Bool),
                                                                                                                                                                    v105 = Value.bool t107 ∧
                                                                                                                                                                      br (!t107)
                                                                                                                                                                        (R (Value.bool false) h106)
                                                                                                                                                                        (CallsH Try.prog (60 : Nat)
                                                                                                                                                                          #[Value.pointer p23] h106
                                                                                                                                                                          fun (v108 : Value)
                                                                                                                                                                            (h109 : Heap) =>
                                                                                                                                                                          Ext h106 h109 ∧
                                                                                                                                                                            ∃ (t110 : Bool),
                                                                                                                                                                              v108 = Value.bool t110 ∧
                                                                                                                                                                                br
                                                                                                                                                                                  (!t110 ==
                                                                                                                                                                                      Prod.fst
                                                                                                                                                                                        (Prod.snd s26))
                                                                                                                                                                                  (R (Value.bool false)
                                                                                                                                                                                    h109)
                                                                                                                                                                                  (CallsH Try.prog
                                                                                                                                                                                    (61 : Nat)
                                                                                                                                                                                    #[Value.pointer p23]
                                                                                                                                                                                    h109
                                                                                                                                                                                    fun (v111 : Value)
                                                                                                                                                                                      (h112 : Heap) =>
                                                                                                                                                                                    Ext h109 h112 ∧
                                                                                                                                                                                      ∃ (n113 : Int),
                                                                                                                                                                                        v111 =
                                                                                                                                                                                            Value.int
                                                                                                                                                                                              IntKind.i64
                                                                                                                                                                                              n113 ∧
                                                                                                                                                                                          br
                                                                                                                                                                                            (n113 !=
                                                                                                                                                                                              (↑l49 :
                                                                                                                                                                                                Int))
                                                                                                                                                                                            (R
                                                                                                                                                                                              (Value.bool
                                                                                                                                                                                                false)
                                                                                                                                                                                              h112)
                                                                                                                                                                                            (CallsH
                                                                                                                                                                                              Try.prog
                                                                                                                                                                                              (62 : Nat)
                                                                                                                                                                                              #[Value.pointer
                                                                                                                                                                                                  p23]
                                                                                                                                                                                              h112
                                                                                                                                                                                              fun
                                                                                                                                                                                                (v114 :
                                                                                                                                                                                                  Value)
                                                                                                                                                                                                (h115 :
                                                                                                                                                                                                  Heap) =>
                                                                                                                                                                                              Ext h112
                                                                                                                                                                                                  h115 ∧
                                                                                                                                                                                                ∃ (t116
                                                                                                                                                                                                  :
                                                                                                                                                                                                  Bool),
                                                                                                                                                                                                  v114 =
                                                                                                                                                                                                      Value.bool
                                                                                                                                                                                                        t116 ∧
                                                                                                                                                                                                    br
                                                                                                                                                                                                      (!Prod.fst
                                                                                                                                                                                                          (Prod.snd
                                                                                                                                                                                                            s26))
                                                                                                                                                                                                      (br
                                                                                                                                                                                                        (!t116 ==
                                                                                                                                                                                                            ((↑l49 :
                                                                                                                                                                                                                Int) ==
                                                                                                                                                                                                              (0 :
                                                                                                                                                                                                                Int)))
                                                                                                                                                                                                        (R
                                                                                                                                                                                                          (Value.bool
                                                                                                                                                                                                            false)
                                                                                                                                                                                                          h115)
                                                                                                                                                                                                        (I24
                                                                                                                                                                                                            ((p48,
                                                                                                                                                                                                                l49,
                                                                                                                                                                                                                c50),
                                                                                                                                                                                                              Prod.fst
                                                                                                                                                                                                                (Prod.snd
                                                                                                                                                                                                                  s26),
                                                                                                                                                                                                              IntKind.wrap
                                                                                                                                                                                                                IntKind.i64
                                                                                                                                                                                                                (Prod.snd
                                                                                                                                                                                                                    (Prod.snd
                                                                                                                                                                                                                      s26) +
                                                                                                                                                                                                                  (1 :
                                                                                                                                                                                                                    Int)))
                                                                                                                                                                                                            h115 ∧
                                                                                                                                                                                                          μ25
                                                                                                                                                                                                              ((p48,
                                                                                                                                                                                                                  l49,
                                                                                                                                                                                                                  c50),
                                                                                                                                                                                                                Prod.fst
                                                                                                                                                                                                                  (Prod.snd
                                                                                                                                                                                                                    s26),
                                                                                                                                                                                                                IntKind.wrap
                                                                                                                                                                                                                  IntKind.i64
                                                                                                                                                                                                                  (Prod.snd
                                                                                                                                                                                                                      (Prod.snd
                                                                                                                                                                                                                        s26) +
                                                                                                                                                                                                                    (1 :
                                                                                                                                                                                                                      Int)))
                                                                                                                                                                                                              h115 <
                                                                                                                                                                                                            μ25
                                                                                                                                                                                                              s26
                                                                                                                                                                                                              h27))
                                                                                                                                                                                                      (br
                                                                                                                                                                                                        (!t116 ==
                                                                                                                                                                                                            false)
                                                                                                                                                                                                        (R
                                                                                                                                                                                                          (Value.bool
                                                                                                                                                                                                            false)
                                                                                                                                                                                                          h115)
                                                                                                                                                                                                        (I24
                                                                                                                                                                                                            ((p48,
                                                                                                                                                                                                                l49,
                                                                                                                                                                                                                c50),
                                                                                                                                                                                                              Prod.fst
                                                                                                                                                                                                                (Prod.snd
                                                                                                                                                                                                                  s26),
                                                                                                                                                                                                              IntKind.wrap
                                                                                                                                                                                                                IntKind.i64
                                                                                                                                                                                                                (Prod.snd
                                                                                                                                                                                                                    (Prod.snd
                                                                                                                                                                                                                      s26) +
                                                                                                                                                                                                                  (1 :
                                                                                                                                                                                                                    Int)))
                                                                                                                                                                                                            h115 ∧
                                                                                                                                                                                                          μ25
                                                                                                                                                                                                              ((p48,
                                                                                                                                                                                                                  l49,
                                                                                                                                                                                                                  c50),
                                                                                                                                                                                                                Prod.fst
                                                                                                                                                                                                                  (Prod.snd
                                                                                                                                                                                                                    s26),
                                                                                                                                                                                                                IntKind.wrap
                                                                                                                                                                                                                  IntKind.i64
                                                                                                                                                                                                                  (Prod.snd
                                                                                                                                                                                                                      (Prod.snd
                                                                                                                                                                                                                        s26) +
                                                                                                                                                                                                                    (1 :
                                                                                                                                                                                                                      Int)))
                                                                                                                                                                                                              h115 <
                                                                                                                                                                                                            μ25
                                                                                                                                                                                                              s26
                                                                                                                                                                                                              h27)))))))))))
                                                    (R (Value.bool true) h27)))))
theorem C11 (b : Option Addr) (b_l : Nat) (b_c : Nat) (kinds : Option Addr) (kinds_l : Nat) (kinds_c : Nat) {h : Heap} {R : Value → Heap → Prop} (H : F11 b b_l b_c kinds kinds_l kinds_c h R) : CallsH Go.Proofs.Try.prog 11 [(.slice b b_l b_c), (.slice kinds kinds_l kinds_c)].toArray h R :=
  fn_sound (A := A11) (Eq.mp (by kernel_rfl : F11 b b_l b_c kinds kinds_l kinds_c h R = fnVc Go.Proofs.Try.prog A11 11 [(.slice b b_l b_c), (.slice kinds kinds_l kinds_c)] h R) H)

/- rolodex/rolodexlaw01.WireNil -/
def A12 : Ann := { qs := [34, 35, 36, 38, 59, 63, 106, 118, 160, 102, 31, 32, 29, 60, 61, 62] }
def F12 (f : Array Value) (h : Heap) (R : Value → Heap → Prop) : Prop :=
  newBlk h (42 : Nat) f fun (b0 : Nat) (h1 : Heap) =>
  CallsH Try.prog (29 : Nat) #[] h1 fun (v2 : Value) (h3 : Heap) =>
    Ext h1 h3 ∧
      ∃ (t4 : Bool),
        v2 = Value.bool t4 ∧
          br (!t4) (CallsH Try.prog (29 : Nat) #[] h3 fun (v5 : Value) (h6 : Heap) => Ext h3 h6 ∧ ∃ (t7 : Bool), v5 = Value.bool t7 ∧ R (Value.bool t7) h6)
            (∃ (p8 : Option Addr),
              ∃ (l9 : Nat),
                ∃ (c10 : Nat),
                  cell h3 (Addr.add (Addr.mk b0 (0 : Nat) none) (2 : Nat)) = some (Value.slice p8 l9 c10) ∧
                    br (decide ((↑l9 : Int) > (9000 : Int)))
                      (CallsH Try.prog (29 : Nat) #[] h3 fun (v11 : Value) (h12 : Heap) => Ext h3 h12 ∧ ∃ (t13 : Bool), v11 = Value.bool t13 ∧ R (Value.bool t13) h12)
                      (∃ (cs14 : Array Value),
                        row h3 (Addr.mk b0 (0 : Nat) none) (3 : Nat) = some cs14 ∧
                          CallsH Try.prog (37 : Nat) #[Value.pointer none, Value.agg cs14] h3 fun (v15 : Value) (h16 : Heap) =>
                            v15 = Value.tuple #[] ∧
                              ∃ (n17 : Int),
                                cell h16 (Addr.add (Addr.mk b0 (0 : Nat) none) (0 : Nat)) = some (Value.int IntKind.i64 n17) ∧
                                  ∃ (n18 : Int),
                                    cell h16 (Addr.add (Addr.mk b0 (0 : Nat) none) (1 : Nat)) = some (Value.int IntKind.u64 n18) ∧
                                      CallsH Try.prog (58 : Nat) #[Value.pointer none, Value.int IntKind.i64 n17, Value.int IntKind.u64 n18] h16 fun (v19 : Value) (h20 : Heap) =>
                                        ∃ (cs21 : Array Value),
                                          Array.size cs21 = (3 : Nat) ∧
                                            v19 = Value.agg cs21 ∧
                                              newBlk h20 (42 : Nat) #[Value.int IntKind.i64 (0 : Int), Value.int IntKind.u64 (0 : Int), Value.slice none (0 : Nat) (0 : Nat)]
                                                fun (b22 : Nat) (h23 : Heap) =>
                                                storeP (some (3 : Nat)) h23 (Addr.mk b22 (0 : Nat) none) (Value.agg cs21) fun (h24 : Heap) =>
                                                  CallsH Try.prog (31 : Nat) #[Value.pointer none] h24 fun (v25 : Value) (h26 : Heap) =>
                                                    Ext h24 h26 ∧
                                                      ∃ (p27 : Option Addr),
                                                        ∃ (l28 : Nat),
                                                          ∃ (c29 : Nat),
                                                            ∃ (n30 : Int),
                                                              v25 = Value.tuple #[Value.slice p27 l28 c29, Value.int IntKind.i64 n30] ∧
                                                                br (n30 == (1 : Int))
                                                                  (br ((↑l28 : Int) == (0 : Int))
                                                                    (∃ (n31 : Int),
                                                                      cell h26 (Addr.add (Addr.mk b22 (0 : Nat) none) (1 : Nat)) = some (Value.int IntKind.u64 n31) ∧
                                                                        br (n31 == (0 : Int))
                                                                          (∃ (p32 : Option Addr),
                                                                            ∃ (l33 : Nat),
                                                                              ∃ (c34 : Nat),
                                                                                cell h26 (Addr.add (Addr.mk b22 (0 : Nat) none) (2 : Nat)) = some (Value.slice p32 l33 c34) ∧
                                                                                  br ((↑l33 : Int) == (0 : Int))
                                                                                    (CallsH Try.prog (61 : Nat) #[Value.pointer none] h26 fun (v35 : Value) (h36 : Heap) =>
                                                                                      Ext h26 h36 ∧
                                                                                        ∃ (n37 : Int),
                                                                                          v35 = Value.int IntKind.i64 n37 ∧
                                                                                            br (n37 == (0 : Int))
                                                                                              (CallsH Try.prog (60 : Nat) #[Value.pointer none] h36 fun (v38 : Value) (h39 : Heap) =>
                                                                                                Ext h36 h39 ∧
                                                                                                  ∃ (t40 : Bool),
                                                                                                    v38 = Value.bool t40 ∧
                                                                                                      br t40
                                                                                                        (CallsH Try.prog (62 : Nat) #[Value.pointer none] h39 fun (v41 : Value) (h42 : Heap) =>
                                                                                                          Ext h39 h42 ∧ ∃ (t43 : Bool), v41 = Value.bool t43 ∧ R (Value.bool !t43) h42)
                                                                                                        (R (Value.bool false) h39))
                                                                                              (R (Value.bool false) h36))
                                                                                    (R (Value.bool false) h26))
                                                                          (R (Value.bool false) h26))
                                                                    (R (Value.bool false) h26))
                                                                  (R (Value.bool false) h26)))
theorem C12 (f : Array Value) {h : Heap} {R : Value → Heap → Prop} (H : F12 f h R) : CallsH Go.Proofs.Try.prog 12 [(.agg f)].toArray h R :=
  fn_sound (A := A12) (Eq.mp (by kernel_rfl : F12 f h R = fnVc Go.Proofs.Try.prog A12 12 [(.agg f)] h R) H)

end Go.Proofs.Ythhjkdebmmfndaa
