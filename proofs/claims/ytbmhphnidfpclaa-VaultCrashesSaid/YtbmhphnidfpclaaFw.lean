/- The formulas of some functions, and that each is what its code comes to. Written by a program of ours. -/
import Derived.Test.YtbmhphnidfpclaaV
import Derived.Test.YtbmhphnidfpclaaNm
import Derived.Test.YtbmhphnidfpclaaProg
import Derived.KernelRfl
set_option linter.unusedVariables false
set_option maxRecDepth 100000
namespace Go.Proofs.Ytbmhphnidfpclaa
open Go Go.Vc Go.Proofs

/- rolodex/rolodexref09.Parts -/
def A_ref09_Parts : Ann := { qs := [6, 7, 12, 13, 14, 15, 17, 18, 20, 21, 22, 23, 25, 26, 32, 33, 34, 35, 36, 37, 40, 42, 43, 44, 45, 46, 50, 51, 54, 56, 59, 60, 63, 66, 70], loops := [(6, [(0, (.int .i64)), (3, (.int .i64))])] }
def F_ref09_Parts (n : Int) (h : Heap) (R : Value → Heap → Prop) : Prop :=
  br (decide (n < (0 : Int))) (R (Value.int IntKind.i64 (0 : Int)) h)
  (br (n == (0 : Int)) (R (Value.int IntKind.i64 (1 : Int)) h)
    (∃ (I0 : Int × Int → Heap → Prop),
      ∃ (μ1 : Int × Int → Heap → Nat),
        I0 (n, (0 : Int)) h ∧
          ∀ (s2 : Int × Int) (h3 : Heap),
            I0 s2 h3 →
              br (decide (Prod.fst s2 > (0 : Int)))
                (I0 (IntKind.wrap IntKind.i64 (Prod.fst s2 - (110 : Int)), IntKind.wrap IntKind.i64 (Prod.snd s2 + (1 : Int))) h3 ∧
                  μ1 (IntKind.wrap IntKind.i64 (Prod.fst s2 - (110 : Int)), IntKind.wrap IntKind.i64 (Prod.snd s2 + (1 : Int))) h3 < μ1 s2 h3)
                (R (Value.int IntKind.i64 (Prod.snd s2)) h3)))
theorem C_ref09_Parts (n : Int) {h : Heap} {R : Value → Heap → Prop} (H : F_ref09_Parts n h R) : CallsH Try.prog n_ref09_Parts [(.int .i64 n)].toArray h R :=
  fn_sound (A := A_ref09_Parts) (Eq.mp (by kernel_rfl : F_ref09_Parts n h R = fnVc Go.Proofs.Try.prog A_ref09_Parts 15 [(.int .i64 n)] h R) H)

/- rolodex/rolodexref02.Few -/
def A_ref02_Few : Ann := { qs := [6, 7, 12, 13, 14, 15, 17, 18, 20, 21, 22, 23, 25, 26, 32, 33, 34, 35, 36, 37, 40, 42, 43, 44, 45, 46, 50, 51, 54, 56, 59, 60, 63, 66, 70], loops := [(2, [(7, (.int .i64))])] }
def F_ref02_Few (l : Option Addr) (l_l : Nat) (l_c : Nat) (n : Int) (most : Int) (h : Heap) (R : Value → Heap → Prop) : Prop :=
  ∃ (I0 : Int → Heap → Prop),
  ∃ (μ1 : Int → Heap → Nat),
    I0 (0 : Int) h ∧
      ∀ (n2 : Int) (h3 : Heap),
        I0 n2 h3 →
          br (decide (n2 < (↑l_l : Int)))
            (br (decide (n2 < (200 : Int)))
              ((0 : Int) ≤ n2 ∧
                n2 < (↑l_l : Int) ∧
                  deref l fun (a4 : Addr) =>
                    ∃ (p5 : Option Addr),
                      ∃ (l6 : Nat),
                        ∃ (c7 : Nat),
                          cell h3 (Addr.add a4 (Int.toNat n2 * (1 : Nat))) = some (Value.slice p5 l6 c7) ∧
                            br (decide ((↑l6 : Int) > most)) (R (Value.bool false) h3)
                              (I0 (IntKind.wrap IntKind.i64 (n2 + (1 : Int))) h3 ∧ μ1 (IntKind.wrap IntKind.i64 (n2 + (1 : Int))) h3 < μ1 n2 h3))
              (R (Value.bool (decide ((↑l_l : Int) ≤ n))) h3))
            (R (Value.bool (decide ((↑l_l : Int) ≤ n))) h3)
theorem C_ref02_Few (l : Option Addr) (l_l : Nat) (l_c : Nat) (n : Int) (most : Int) {h : Heap} {R : Value → Heap → Prop} (H : F_ref02_Few l l_l l_c n most h R) : CallsH Try.prog n_ref02_Few [(.slice l l_l l_c), (.int .i64 n), (.int .i64 most)].toArray h R :=
  fn_sound (A := A_ref02_Few) (Eq.mp (by kernel_rfl : F_ref02_Few l l_l l_c n most h R = fnVc Go.Proofs.Try.prog A_ref02_Few 33 [(.slice l l_l l_c), (.int .i64 n), (.int .i64 most)] h R) H)

/- rolodex/rolodexref02.Same -/
def A_ref02_Same : Ann := { qs := [6, 7, 12, 13, 14, 15, 17, 18, 20, 21, 22, 23, 25, 26, 32, 33, 34, 35, 36, 37, 40, 42, 43, 44, 45, 46, 50, 51, 54, 56, 59, 60, 63, 66, 70], loops := [(4, [(5, (.int .i64))])], plans := [(6, (.take 0 (.take 1 (.take 2 (.take 3 (.take 4 (.take 5 (.take 6 (.take 7 (.alt 8 (.take 9 .done) .stop))))))))))] }
def F_ref02_Same (a : Option Addr) (a_l : Nat) (a_c : Nat) (b : Option Addr) (b_l : Nat) (b_c : Nat) (h : Heap) (R : Value → Heap → Prop) : Prop :=
  br ((↑a_l : Int) != (↑b_l : Int)) (R (Value.bool false) h)
  (∃ (I0 : Int → Heap → Prop),
    ∃ (μ1 : Int → Heap → Nat),
      I0 (0 : Int) h ∧
        ∀ (n2 : Int) (h3 : Heap),
          I0 n2 h3 →
            br (decide (n2 < (↑a_l : Int)))
              ((0 : Int) ≤ n2 ∧
                n2 < (↑a_l : Int) ∧
                  deref a fun (a4 : Addr) =>
                    ∃ (p5 : Option Addr),
                      ∃ (l6 : Nat),
                        ∃ (c7 : Nat),
                          cell h3 (Addr.add a4 (Int.toNat n2 * (1 : Nat))) = some (Value.slice p5 l6 c7) ∧
                            (0 : Int) ≤ n2 ∧
                              n2 < (↑b_l : Int) ∧
                                deref b fun (a8 : Addr) =>
                                  ∃ (p9 : Option Addr),
                                    ∃ (l10 : Nat),
                                      ∃ (c11 : Nat),
                                        cell h3 (Addr.add a8 (Int.toNat n2 * (1 : Nat))) = some (Value.slice p9 l10 c11) ∧
                                          CallsH Try.prog n_ref01_Same #[Value.slice p5 l6 c7, Value.slice p9 l10 c11] h3 fun (v12 : Value) (h13 : Heap) =>
                                            Ext h3 h13 ∧
                                              ∃ (t14 : Bool),
                                                v12 = Value.bool t14 ∧
                                                  br (!t14) (R (Value.bool false) h13)
                                                    (I0 (IntKind.wrap IntKind.i64 (n2 + (1 : Int))) h13 ∧ μ1 (IntKind.wrap IntKind.i64 (n2 + (1 : Int))) h13 < μ1 n2 h3))
              (R (Value.bool true) h3))
theorem C_ref02_Same (a : Option Addr) (a_l : Nat) (a_c : Nat) (b : Option Addr) (b_l : Nat) (b_c : Nat) {h : Heap} {R : Value → Heap → Prop} (H : F_ref02_Same a a_l a_c b b_l b_c h R) : CallsH Try.prog n_ref02_Same [(.slice a a_l a_c), (.slice b b_l b_c)].toArray h R :=
  fn_sound (A := A_ref02_Same) (Eq.mp (by kernel_rfl : F_ref02_Same a a_l a_c b b_l b_c h R = fnVc Go.Proofs.Try.prog A_ref02_Same 17 [(.slice a a_l a_c), (.slice b b_l b_c)] h R) H)

/- rolodex/rolodexref09.Ahead -/
def A_ref09_Ahead : Ann := { qs := [6, 7, 12, 13, 14, 15, 17, 18, 20, 21, 22, 23, 25, 26, 32, 33, 34, 35, 36, 37, 40, 42, 43, 44, 45, 46, 50, 51, 54, 56, 59, 60, 63, 66, 70], loops := [(4, [(5, (.int .i64))])], plans := [(6, (.take 0 (.take 1 (.take 2 (.take 3 (.take 4 (.take 5 (.take 6 (.take 7 (.alt 8 (.take 9 .done) .stop))))))))))] }
def F_ref09_Ahead (a : Option Addr) (a_l : Nat) (a_c : Nat) (b : Option Addr) (b_l : Nat) (b_c : Nat) (h : Heap) (R : Value → Heap → Prop) : Prop :=
  br (decide ((↑a_l : Int) > (↑b_l : Int))) (R (Value.bool false) h)
  (∃ (I0 : Int → Heap → Prop),
    ∃ (μ1 : Int → Heap → Nat),
      I0 (0 : Int) h ∧
        ∀ (n2 : Int) (h3 : Heap),
          I0 n2 h3 →
            br (decide (n2 < (↑a_l : Int)))
              ((0 : Int) ≤ n2 ∧
                n2 < (↑a_l : Int) ∧
                  deref a fun (a4 : Addr) =>
                    ∃ (p5 : Option Addr),
                      ∃ (l6 : Nat),
                        ∃ (c7 : Nat),
                          cell h3 (Addr.add a4 (Int.toNat n2 * (1 : Nat))) = some (Value.slice p5 l6 c7) ∧
                            (0 : Int) ≤ n2 ∧
                              n2 < (↑b_l : Int) ∧
                                deref b fun (a8 : Addr) =>
                                  ∃ (p9 : Option Addr),
                                    ∃ (l10 : Nat),
                                      ∃ (c11 : Nat),
                                        cell h3 (Addr.add a8 (Int.toNat n2 * (1 : Nat))) = some (Value.slice p9 l10 c11) ∧
                                          CallsH Try.prog n_ref01_Same #[Value.slice p5 l6 c7, Value.slice p9 l10 c11] h3 fun (v12 : Value) (h13 : Heap) =>
                                            Ext h3 h13 ∧
                                              ∃ (t14 : Bool),
                                                v12 = Value.bool t14 ∧
                                                  br (!t14) (R (Value.bool false) h13)
                                                    (I0 (IntKind.wrap IntKind.i64 (n2 + (1 : Int))) h13 ∧ μ1 (IntKind.wrap IntKind.i64 (n2 + (1 : Int))) h13 < μ1 n2 h3))
              (R (Value.bool true) h3))
theorem C_ref09_Ahead (a : Option Addr) (a_l : Nat) (a_c : Nat) (b : Option Addr) (b_l : Nat) (b_c : Nat) {h : Heap} {R : Value → Heap → Prop} (H : F_ref09_Ahead a a_l a_c b b_l b_c h R) : CallsH Try.prog n_ref09_Ahead [(.slice a a_l a_c), (.slice b b_l b_c)].toArray h R :=
  fn_sound (A := A_ref09_Ahead) (Eq.mp (by kernel_rfl : F_ref09_Ahead a a_l a_c b b_l b_c h R = fnVc Go.Proofs.Try.prog A_ref09_Ahead 20 [(.slice a a_l a_c), (.slice b b_l b_c)] h R) H)

/- rolodex/wal.Parts -/
def A_wal_Parts : Ann := { qs := [6, 7, 12, 13, 14, 15, 17, 18, 20, 21, 22, 23, 25, 26, 32, 33, 34, 35, 36, 37, 40, 42, 43, 44, 45, 46, 50, 51, 54, 56, 59, 60, 63, 66, 70] }
def F_wal_Parts (n : Int) (h : Heap) (R : Value → Heap → Prop) : Prop :=
  br (decide (n < (0 : Int))) (R (Value.int IntKind.i64 (0 : Int)) h)
  ((110 : Int) ≠ (0 : Int) ∧
    R (Value.int IntKind.i64 (maxI (IntKind.wrap IntKind.i64 (IntKind.wrap IntKind.i64 (Int.tdiv (IntKind.wrap IntKind.i64 (n - (1 : Int))) (110 : Int)) + (1 : Int))) (1 : Int))) h)
theorem C_wal_Parts (n : Int) {h : Heap} {R : Value → Heap → Prop} (H : F_wal_Parts n h R) : CallsH Try.prog n_wal_Parts [(.int .i64 n)].toArray h R :=
  fn_sound (A := A_wal_Parts) (Eq.mp (by kernel_rfl : F_wal_Parts n h R = fnVc Go.Proofs.Try.prog A_wal_Parts 45 [(.int .i64 n)] h R) H)

/- (rolodex/wal.part).mark -/
def A_wal_part_mark : Ann := { qs := [6, 7, 12, 13, 14, 15, 17, 18, 20, 21, 22, 23, 25, 26, 32, 33, 34, 35, 36, 37, 40, 42, 43, 44, 45, 46, 50, 51, 54, 56, 59, 60, 63, 66, 70] }
def F_wal_part_mark (p : Array Value) (h : Heap) (R : Value → Heap → Prop) : Prop :=
  newBlk h (91 : Nat) p fun (b0 : Nat) (h1 : Heap) =>
  ∃ (n2 : Int),
    cell h1 (Addr.add (Addr.mk b0 (0 : Nat) none) (0 : Nat)) = some (Value.int IntKind.u32 n2) ∧
      (0 : Int) ≤ (32 : Int) ∧
        ∃ (n3 : Int),
          cell h1 (Addr.add (Addr.mk b0 (0 : Nat) none) (1 : Nat)) = some (Value.int IntKind.i64 n3) ∧
            R (Value.int IntKind.u64 (orI IntKind.u64 (shlI IntKind.u64 (IntKind.wrap IntKind.u64 n2) (32 : Int)) (IntKind.wrap IntKind.u64 (IntKind.wrap IntKind.u32 n3)))) h1
theorem C_wal_part_mark (p : Array Value) {h : Heap} {R : Value → Heap → Prop} (H : F_wal_part_mark p h R) : CallsH Try.prog n_wal_part_mark [(.agg p)].toArray h R :=
  fn_sound (A := A_wal_part_mark) (Eq.mp (by kernel_rfl : F_wal_part_mark p h R = fnVc Go.Proofs.Try.prog A_wal_part_mark 66 [(.agg p)] h R) H)

/- (rolodex/wal.part).page -/
def A_wal_part_page : Ann := { qs := [6, 7, 12, 13, 14, 15, 17, 18, 20, 21, 22, 23, 25, 26, 32, 33, 34, 35, 36, 37, 40, 42, 43, 44, 45, 46, 50, 51, 54, 56, 59, 60, 63, 66, 70] }
def F_wal_part_page (p : Array Value) (h : Heap) (R : Value → Heap → Prop) : Prop :=
  newBlk h (91 : Nat) p fun (b0 : Nat) (h1 : Heap) =>
  newBlk h1 (108 : Nat) #[Value.slice none (0 : Nat) (0 : Nat), Value.bool false] fun (b2 : Nat) (h3 : Heap) =>
    ∃ (cs4 : Array Value),
      row h3 (Addr.mk b0 (0 : Nat) none) (4 : Nat) = some cs4 ∧
        CallsH Try.prog n_wal_part_mark #[Value.agg cs4] h3 fun (v5 : Value) (h6 : Heap) =>
          Ext h3 h6 ∧
            ∃ (n7 : Int),
              v5 = Value.int IntKind.u64 n7 ∧
                CallsH Try.prog n_wire_Writer_U64 #[Value.pointer (some (Addr.mk b2 (0 : Nat) none)), Value.int IntKind.u64 n7] h6 fun (v8 : Value) (h9 : Heap) =>
                  v8 = Value.tuple #[] ∧
                    ∃ (n10 : Int),
                      cell h9 (Addr.add (Addr.mk b0 (0 : Nat) none) (2 : Nat)) = some (Value.int IntKind.i64 n10) ∧
                        CallsH Try.prog n_wire_Writer_U8 #[Value.pointer (some (Addr.mk b2 (0 : Nat) none)), Value.int IntKind.i64 n10] h9 fun (v11 : Value) (h12 : Heap) =>
                          v11 = Value.tuple #[] ∧
                            ∃ (p13 : Option Addr),
                              ∃ (l14 : Nat),
                                ∃ (c15 : Nat),
                                  cell h12 (Addr.add (Addr.mk b0 (0 : Nat) none) (3 : Nat)) = some (Value.slice p13 l14 c15) ∧
                                    CallsH Try.prog n_wire_Writer_U8 #[Value.pointer (some (Addr.mk b2 (0 : Nat) none)), Value.int IntKind.i64 (↑l14 : Int)] h12 fun (v16 : Value) (h17 : Heap) =>
                                      v16 = Value.tuple #[] ∧
                                        ∃ (p18 : Option Addr),
                                          ∃ (l19 : Nat),
                                            ∃ (c20 : Nat),
                                              cell h17 (Addr.add (Addr.mk b0 (0 : Nat) none) (3 : Nat)) = some (Value.slice p18 l19 c20) ∧
                                                CallsH Try.prog n_wire_Writer_Plain #[Value.pointer (some (Addr.mk b2 (0 : Nat) none)), Value.slice p18 l19 c20] h17 fun (v21 : Value) (h22 : Heap) =>
                                                  v21 = Value.tuple #[] ∧
                                                    ∃ (p23 : Option Addr),
                                                      ∃ (l24 : Nat),
                                                        ∃ (c25 : Nat),
                                                          cell h22 (Addr.add (Addr.mk b0 (0 : Nat) none) (3 : Nat)) = some (Value.slice p23 l24 c25) ∧
                                                            makeP (5 : Nat) (1 : Nat) (1 : Nat) #[Value.int IntKind.u8 (0 : Int)] (IntKind.wrap IntKind.i64 ((110 : Int) - (↑l24 : Int)))
                                                              (IntKind.wrap IntKind.i64 ((110 : Int) - (↑l24 : Int))) h22 fun (b26 : Nat) (h27 : Heap) =>
                                                              CallsH Try.prog n_wire_Writer_Plain
                                                                #[Value.pointer (some (Addr.mk b2 (0 : Nat) none)),
                                                                  Value.slice (some (Addr.mk b26 (0 : Nat) none)) (Int.toNat (IntKind.wrap IntKind.i64 ((110 : Int) - (↑l24 : Int))))
                                                                    (Int.toNat (IntKind.wrap IntKind.i64 ((110 : Int) - (↑l24 : Int))))]
                                                                h27 fun (v28 : Value) (h29 : Heap) =>
                                                                v28 = Value.tuple #[] ∧
                                                                  ∃ (cs30 : Array Value),
                                                                    row h29 (Addr.mk b0 (0 : Nat) none) (4 : Nat) = some cs30 ∧
                                                                      CallsH Try.prog n_wal_part_mark #[Value.agg cs30] h29 fun (v31 : Value) (h32 : Heap) =>
                                                                        Ext h29 h32 ∧
                                                                          ∃ (n33 : Int),
                                                                            v31 = Value.int IntKind.u64 n33 ∧
                                                                              CallsH Try.prog n_wire_Writer_U64 #[Value.pointer (some (Addr.mk b2 (0 : Nat) none)), Value.int IntKind.u64 n33] h32
                                                                                fun (v34 : Value) (h35 : Heap) =>
                                                                                v34 = Value.tuple #[] ∧
                                                                                  CallsH Try.prog n_wire_Writer_Out #[Value.pointer (some (Addr.mk b2 (0 : Nat) none))] h35 fun (v36 : Value) (h37 : Heap) =>
                                                                                    Ext h35 h37 ∧
                                                                                      ∃ (p38 : Option Addr),
                                                                                        ∃ (l39 : Nat),
                                                                                          ∃ (c40 : Nat),
                                                                                            ∃ (n41 : Int),
                                                                                              v36 = Value.tuple #[Value.slice p38 l39 c40, Value.int IntKind.i64 n41] ∧
                                                                                                R (Value.tuple #[Value.slice p38 l39 c40, Value.int IntKind.i64 n41]) h37
theorem C_wal_part_page (p : Array Value) {h : Heap} {R : Value → Heap → Prop} (H : F_wal_part_page p h R) : CallsH Try.prog n_wal_part_page [(.agg p)].toArray h R :=
  fn_sound (A := A_wal_part_page) (Eq.mp (by kernel_rfl : F_wal_part_page p h R = fnVc Go.Proofs.Try.prog A_wal_part_page 46 [(.agg p)] h R) H)

/- rolodex/wal.parted -/
def A_wal_parted : Ann := { qs := [6, 7, 12, 13, 14, 15, 17, 18, 20, 21, 22, 23, 25, 26, 32, 33, 34, 35, 36, 37, 40, 42, 43, 44, 45, 46, 50, 51, 54, 56, 59, 60, 63, 66, 70], loops := [(9, [(43, (.int .i64))])], cuts := [(14, []), (15, [(14, .bool)]), (16, [(15, .bool)])], plans := [(16, (.take 0 (.take 1 (.take 2 (.take 3 (.take 4 (.take 5 (.take 6 (.take 7 (.take 8 (.take 9 (.take 10 (.take 11 (.take 12 (.take 13 (.take 14 (.take 15 (.take 16 (.take 17 (.take 19 (.alt 18 (.take 20 (.take 21 (.alt 22 (.take 23 .done) .stop))) (.alt 22 (.take 18 (.take 20 (.take 21 (.take 23 .done)))) .stop))))))))))))))))))))))] }
def F_wal_parted (b : Option Addr) (b_l : Nat) (b_c : Nat) (place : Int) (least : Int) (h : Heap) (R : Value → Heap → Prop) : Prop :=
  newBlk h (91 : Nat) #[Value.int IntKind.u32 (0 : Int), Value.int IntKind.i64 (0 : Int), Value.int IntKind.i64 (0 : Int), Value.slice none (0 : Nat) (0 : Nat)] fun (b0 : Nat) (h1 : Heap) =>
  CallsH Try.prog n_wire_New #[Value.slice b b_l b_c] h1 fun (v2 : Value) (h3 : Heap) =>
    Ext h1 h3 ∧
      ∃ (p4 : Option Addr),
        v2 = Value.pointer p4 ∧
          CallsH Try.prog n_wire_Reader_U64 #[Value.pointer p4] h3 fun (v5 : Value) (h6 : Heap) =>
            ∃ (n7 : Int),
              v5 = Value.int IntKind.u64 n7 ∧
                (0 : Int) ≤ (32 : Int) ∧
                  CallsH Try.prog n_wire_Reader_U8 #[Value.pointer p4] h6 fun (v8 : Value) (h9 : Heap) =>
                    ∃ (n10 : Int),
                      v8 = Value.int IntKind.i64 n10 ∧
                        newBlk h9 (91 : Nat) #[Value.int IntKind.u32 (0 : Int), Value.int IntKind.i64 (0 : Int), Value.int IntKind.i64 (0 : Int), Value.slice none (0 : Nat) (0 : Nat)]
                          fun (b11 : Nat) (h12 : Heap) =>
                          storeP (some (4 : Nat)) h12 (Addr.mk b11 (0 : Nat) none)
                            (Value.agg
                              #[Value.int IntKind.u32 (IntKind.wrap IntKind.u32 (shrI IntKind.u64 n7 (32 : Int))), Value.int IntKind.i64 (IntKind.wrap IntKind.i64 (IntKind.wrap IntKind.u32 n7)),
                                Value.int IntKind.i64 n10, Value.slice none (0 : Nat) (0 : Nat)])
                            fun (h13 : Heap) =>
                            CallsH Try.prog n_wire_Reader_U8 #[Value.pointer p4] h13 fun (v14 : Value) (h15 : Heap) =>
                              ∃ (n16 : Int),
                                v14 = Value.int IntKind.i64 n16 ∧
                                  br (decide (n16 > (110 : Int)))
                                    (storeP (some (4 : Nat)) h15 (Addr.mk b0 (0 : Nat) none)
                                      (Value.agg #[Value.int IntKind.u32 (0 : Int), Value.int IntKind.i64 (0 : Int), Value.int IntKind.i64 (0 : Int), Value.slice none (0 : Nat) (0 : Nat)])
                                      fun (h17 : Heap) => ∃ (cs18 : Array Value), row h17 (Addr.mk b0 (0 : Nat) none) (4 : Nat) = some cs18 ∧ R (Value.tuple #[Value.agg cs18, Value.bool false]) h17)
                                    (CallsH Try.prog n_wire_Reader_Plain #[Value.pointer p4, Value.int IntKind.i64 n16] h15 fun (v19 : Value) (h20 : Heap) =>
                                      ∃ (p21 : Option Addr),
                                        ∃ (l22 : Nat),
                                          ∃ (c23 : Nat),
                                            v19 = Value.slice p21 l22 c23 ∧
                                              storeP none h20 (Addr.mk (Addr.block (Addr.mk b11 (0 : Nat) none)) (Addr.off (Addr.mk b11 (0 : Nat) none) + (3 : Nat)) none) (Value.slice p21 l22 c23)
                                                fun (h24 : Heap) =>
                                                ∃ (J25 : PUnit → Heap → Prop),
                                                  (CallsH Try.prog n_wire_Reader_Plain #[Value.pointer p4, Value.int IntKind.i64 (IntKind.wrap IntKind.i64 ((110 : Int) - n16))] h24
                                                      fun (v26 : Value) (h27 : Heap) =>
                                                      ∃ (p28 : Option Addr),
                                                        ∃ (l29 : Nat),
                                                          ∃ (c30 : Nat),
                                                            v26 = Value.slice p28 l29 c30 ∧
                                                              ∃ (I31 : Int → Heap → Prop),
                                                                ∃ (μ32 : Int → Heap → Nat),
                                                                  I31 (0 : Int) h27 ∧
                                                                    ∀ (n33 : Int) (h34 : Heap),
                                                                      I31 n33 h34 →
                                                                        br (decide (n33 < (↑l29 : Int)))
                                                                          ((0 : Int) ≤ n33 ∧
                                                                            n33 < (↑l29 : Int) ∧
                                                                              deref p28 fun (a35 : Addr) =>
                                                                                ∃ (n36 : Int),
                                                                                  cell h34 (Addr.add a35 (Int.toNat n33 * (1 : Nat))) = some (Value.int IntKind.u8 n36) ∧
                                                                                    br (n36 != (0 : Int))
                                                                                      (storeP (some (4 : Nat)) h34 (Addr.mk b0 (0 : Nat) none)
                                                                                        (Value.agg
                                                                                          #[Value.int IntKind.u32 (0 : Int), Value.int IntKind.i64 (0 : Int), Value.int IntKind.i64 (0 : Int),
                                                                                            Value.slice none (0 : Nat) (0 : Nat)])
                                                                                        fun (h37 : Heap) =>
                                                                                        ∃ (cs38 : Array Value),
                                                                                          row h37 (Addr.mk b0 (0 : Nat) none) (4 : Nat) = some cs38 ∧
                                                                                            R (Value.tuple #[Value.agg cs38, Value.bool false]) h37)
                                                                                      (I31 (IntKind.wrap IntKind.i64 (n33 + (1 : Int))) h34 ∧
                                                                                        μ32 (IntKind.wrap IntKind.i64 (n33 + (1 : Int))) h34 < μ32 n33 h34))
                                                                          (J25 () h34)) ∧
                                                    ∀ (x39 : PUnit) (h40 : Heap),
                                                      J25 x39 h40 →
                                                        ∃ (J41 : Bool → Heap → Prop),
                                                          (CallsH Try.prog n_wire_Reader_U64 #[Value.pointer p4] h40 fun (v42 : Value) (h43 : Heap) =>
                                                              ∃ (n44 : Int),
                                                                v42 = Value.int IntKind.u64 n44 ∧
                                                                  br (n44 == n7)
                                                                    (CallsH Try.prog n_wire_Reader_Done #[Value.pointer p4] h43 fun (v45 : Value) (h46 : Heap) =>
                                                                      Ext h43 h46 ∧ ∃ (t47 : Bool), v45 = Value.bool t47 ∧ J41 t47 h46)
                                                                    (J41 false h43)) ∧
                                                            ∀ (t48 : Bool) (h49 : Heap),
                                                              J41 t48 h49 →
                                                                ∃ (J50 : Bool → Heap → Prop),
                                                                  br (n16 == (110 : Int)) (J50 true h49)
                                                                      (∃ (n51 : Int),
                                                                        cell h49 (Addr.add (Addr.mk b11 (0 : Nat) none) (2 : Nat)) = some (Value.int IntKind.i64 n51) ∧
                                                                          J50 (andI IntKind.i64 n51 (2 : Int) != (0 : Int)) h49) ∧
                                                                    ∀ (t52 : Bool) (h53 : Heap),
                                                                      J50 t52 h53 →
                                                                        ∃ (cs54 : Array Value),
                                                                          row h53 (Addr.mk b11 (0 : Nat) none) (4 : Nat) = some cs54 ∧
                                                                            br t48
                                                                              (br t52
                                                                                (∃ (n55 : Int),
                                                                                  cell h53 (Addr.add (Addr.mk b11 (0 : Nat) none) (2 : Nat)) = some (Value.int IntKind.i64 n55) ∧
                                                                                    br (decide (n55 ≤ (3 : Int)))
                                                                                      (∃ (n56 : Int),
                                                                                        cell h53 (Addr.add (Addr.mk b11 (0 : Nat) none) (1 : Nat)) = some (Value.int IntKind.i64 n56) ∧
                                                                                          br (n56 == place)
                                                                                            ((∃ (n57 : Int),
                                                                                                cell h53 (Addr.add (Addr.mk b11 (0 : Nat) none) (0 : Nat)) = some (Value.int IntKind.u32 n57) ∧
                                                                                                  storeP (some (4 : Nat)) h53 (Addr.mk b0 (0 : Nat) none) (Value.agg cs54) fun (h58 : Heap) =>
                                                                                                    ∃ (cs59 : Array Value),
                                                                                                      row h58 (Addr.mk b0 (0 : Nat) none) (4 : Nat) = some cs59 ∧
                                                                                                        R (Value.tuple #[Value.agg cs59, Value.bool (decide (n57 ≥ least))]) h58) ∧
                                                                                              storeP (some (4 : Nat)) h53 (Addr.mk b0 (0 : Nat) none) (Value.agg cs54) fun (h60 : Heap) =>
                                                                                                ∃ (n61 : Int),
                                                                                                  cell h60 (Addr.add (Addr.mk b11 (0 : Nat) none) (0 : Nat)) = some (Value.int IntKind.u32 n61) ∧
                                                                                                    ∃ (cs62 : Array Value),
                                                                                                      row h60 (Addr.mk b0 (0 : Nat) none) (4 : Nat) = some cs62 ∧
                                                                                                        R (Value.tuple #[Value.agg cs62, Value.bool (decide (n61 ≥ least))]) h60)
                                                                                            ((storeP (some (4 : Nat)) h53 (Addr.mk b0 (0 : Nat) none) (Value.agg cs54) fun (h63 : Heap) =>
                                                                                                ∃ (cs64 : Array Value),
                                                                                                  row h63 (Addr.mk b0 (0 : Nat) none) (4 : Nat) = some cs64 ∧
                                                                                                    R (Value.tuple #[Value.agg cs64, Value.bool false]) h63) ∧
                                                                                              storeP (some (4 : Nat)) h53 (Addr.mk b0 (0 : Nat) none) (Value.agg cs54) fun (h65 : Heap) =>
                                                                                                ∃ (cs66 : Array Value),
                                                                                                  row h65 (Addr.mk b0 (0 : Nat) none) (4 : Nat) = some cs66 ∧
                                                                                                    R (Value.tuple #[Value.agg cs66, Value.bool false]) h65))
                                                                                      ((storeP (some (4 : Nat)) h53 (Addr.mk b0 (0 : Nat) none) (Value.agg cs54) fun (h67 : Heap) =>
                                                                                          ∃ (cs68 : Array Value),
                                                                                            row h67 (Addr.mk b0 (0 : Nat) none) (4 : Nat) = some cs68 ∧
                                                                                              R (Value.tuple #[Value.agg cs68, Value.bool false]) h67) ∧
                                                                                        storeP (some (4 : Nat)) h53 (Addr.mk b0 (0 : Nat) none) (Value.agg cs54) fun (h69 : Heap) =>
                                                                                          ∃ (cs70 : Array Value),
                                                                                            row h69 (Addr.mk b0 (0 : Nat) none) (4 : Nat) = some cs70 ∧
                                                                                              R (Value.tuple #[Value.agg cs70, Value.bool false]) h69))
                                                                                ((storeP (some (4 : Nat)) h53 (Addr.mk b0 (0 : Nat) none) (Value.agg cs54) fun (h71 : Heap) =>
                                                                                    ∃ (cs72 : Array Value),
                                                                                      row h71 (Addr.mk b0 (0 : Nat) none) (4 : Nat) = some cs72 ∧
                                                                                        R (Value.tuple #[Value.agg cs72, Value.bool false]) h71) ∧
                                                                                  storeP (some (4 : Nat)) h53 (Addr.mk b0 (0 : Nat) none) (Value.agg cs54) fun (h73 : Heap) =>
                                                                                    ∃ (cs74 : Array Value),
                                                                                      row h73 (Addr.mk b0 (0 : Nat) none) (4 : Nat) = some cs74 ∧
                                                                                        R (Value.tuple #[Value.agg cs74, Value.bool false]) h73))
                                                                              ((storeP (some (4 : Nat)) h53 (Addr.mk b0 (0 : Nat) none) (Value.agg cs54) fun (h75 : Heap) =>
                                                                                  ∃ (cs76 : Array Value),
                                                                                    row h75 (Addr.mk b0 (0 : Nat) none) (4 : Nat) = some cs76 ∧
                                                                                      R (Value.tuple #[Value.agg cs76, Value.bool false]) h75) ∧
                                                                                storeP (some (4 : Nat)) h53 (Addr.mk b0 (0 : Nat) none) (Value.agg cs54) fun (h77 : Heap) =>
                                                                                  ∃ (cs78 : Array Value),
                                                                                    row h77 (Addr.mk b0 (0 : Nat) none) (4 : Nat) = some cs78 ∧
                                                                                      R (Value.tuple #[Value.agg cs78, Value.bool false]) h77))
theorem C_wal_parted (b : Option Addr) (b_l : Nat) (b_c : Nat) (place : Int) (least : Int) {h : Heap} {R : Value → Heap → Prop} (H : F_wal_parted b b_l b_c place least h R) : CallsH Try.prog n_wal_parted [(.slice b b_l b_c), (.int .i64 place), (.int .u32 least)].toArray h R :=
  fn_sound (A := A_wal_parted) (Eq.mp (by kernel_rfl : F_wal_parted b b_l b_c place least h R = fnVc Go.Proofs.Try.prog A_wal_parted 44 [(.slice b b_l b_c), (.int .i64 place), (.int .u32 least)] h R) H)

/- rolodex/wal.may -/
def A_wal_may : Ann := { qs := [6, 7, 12, 13, 14, 15, 17, 18, 20, 21, 22, 23, 25, 26, 32, 33, 34, 35, 36, 37, 40, 42, 43, 44, 45, 46, 50, 51, 54, 56, 59, 60, 63, 66, 70] }
def F_wal_may (d : Option Addr) (from_ : Int) (count : Int) (least : Int) (generation : Int) (h : Heap) (R : Value → Heap → Prop) : Prop :=
  br (!Option.isNone d)
  (br (decide (from_ ≥ (0 : Int)))
    (br (decide (count ≥ (0 : Int)))
      (CallsH Try.prog n_device_Device_Pages #[Value.pointer d] h fun (v0 : Value) (h1 : Heap) =>
        Ext h h1 ∧
          ∃ (n2 : Int),
            v0 = Value.int IntKind.i64 n2 ∧
              br (decide (from_ ≤ n2))
                (CallsH Try.prog n_device_Device_Pages #[Value.pointer d] h1 fun (v3 : Value) (h4 : Heap) =>
                  Ext h1 h4 ∧
                    ∃ (n5 : Int),
                      v3 = Value.int IntKind.i64 n5 ∧
                        br (decide (count ≤ IntKind.wrap IntKind.i64 (n5 - from_))) (br (decide (least > (0 : Int))) (R (Value.bool (decide (generation ≥ least))) h4) (R (Value.bool false) h4))
                          (R (Value.bool false) h4))
                (R (Value.bool false) h1))
      (R (Value.bool false) h))
    (R (Value.bool false) h))
  (R (Value.bool false) h)
theorem C_wal_may (d : Option Addr) (from_ : Int) (count : Int) (least : Int) (generation : Int) {h : Heap} {R : Value → Heap → Prop} (H : F_wal_may d from_ count least generation h R) : CallsH Try.prog n_wal_may [(.pointer d), (.int .i64 from_), (.int .i64 count), (.int .u32 least), (.int .u32 generation)].toArray h R :=
  fn_sound (A := A_wal_may) (Eq.mp (by kernel_rfl : F_wal_may d from_ count least generation h R = fnVc Go.Proofs.Try.prog A_wal_may 43 [(.pointer d), (.int .i64 from_), (.int .i64 count), (.int .u32 least), (.int .u32 generation)] h R) H)

/- (*rolodex/wal.Log).Room -/
def A_wal_Log_Room : Ann := { qs := [6, 7, 12, 13, 14, 15, 17, 18, 20, 21, 22, 23, 25, 26, 32, 33, 34, 35, 36, 37, 40, 42, 43, 44, 45, 46, 50, 51, 54, 56, 59, 60, 63, 66, 70], plans := [(3, (.take 0 (.take 1 (.take 2 (.take 3 (.take 4 (.take 5 (.take 6 (.take 7 (.take 8 (.take 9 .done)))))))))))] }
def F_wal_Log_Room (l : Option Addr) (h : Heap) (R : Value → Heap → Prop) : Prop :=
  br (Option.isNone l) (R (Value.int IntKind.i64 (0 : Int)) h)
  (deref l fun (a0 : Addr) =>
    ∃ (n1 : Int),
      cell h (Addr.add a0 (2 : Nat)) = some (Value.int IntKind.i64 n1) ∧
        deref l fun (a2 : Addr) => ∃ (n3 : Int), cell h (Addr.add a2 (4 : Nat)) = some (Value.int IntKind.i64 n3) ∧ R (Value.int IntKind.i64 (IntKind.wrap IntKind.i64 (n1 - n3))) h)
theorem C_wal_Log_Room (l : Option Addr) {h : Heap} {R : Value → Heap → Prop} (H : F_wal_Log_Room l h R) : CallsH Try.prog n_wal_Log_Room [(.pointer l)].toArray h R :=
  fn_sound (A := A_wal_Log_Room) (Eq.mp (by kernel_rfl : F_wal_Log_Room l h R = fnVc Go.Proofs.Try.prog A_wal_Log_Room 32 [(.pointer l)] h R) H)

/- (*rolodex/wal.Log).done -/
def A_wal_Log_done : Ann := { qs := [6, 7, 12, 13, 14, 15, 17, 18, 20, 21, 22, 23, 25, 26, 32, 33, 34, 35, 36, 37, 40, 42, 43, 44, 45, 46, 50, 51, 54, 56, 59, 60, 63, 66, 70] }
def F_wal_Log_done (l : Option Addr) (e : Int) (h : Heap) (R : Value → Heap → Prop) : Prop :=
  deref l fun (a0 : Addr) =>
  ∃ (t1 : Bool),
    cell h (Addr.add a0 (5 : Nat)) = some (Value.bool t1) ∧
      br t1 (deref l fun (a2 : Addr) => storeP none h (Addr.mk (Addr.block a2) (Addr.off a2 + (5 : Nat)) none) (Value.bool true) fun (h3 : Heap) => R (Value.int IntKind.i64 e) h3)
        (deref l fun (a4 : Addr) => storeP none h (Addr.mk (Addr.block a4) (Addr.off a4 + (5 : Nat)) none) (Value.bool (e == (6 : Int))) fun (h5 : Heap) => R (Value.int IntKind.i64 e) h5)
theorem C_wal_Log_done (l : Option Addr) (e : Int) {h : Heap} {R : Value → Heap → Prop} (H : F_wal_Log_done l e h R) : CallsH Try.prog n_wal_Log_done [(.pointer l), (.int .i64 e)].toArray h R :=
  fn_sound (A := A_wal_Log_done) (Eq.mp (by kernel_rfl : F_wal_Log_done l e h R = fnVc Go.Proofs.Try.prog A_wal_Log_done 48 [(.pointer l), (.int .i64 e)] h R) H)

/- (*rolodex/wal.Log).Flush -/
def A_wal_Log_Flush : Ann := { qs := [6, 7, 12, 13, 14, 15, 17, 18, 20, 21, 22, 23, 25, 26, 32, 33, 34, 35, 36, 37, 40, 42, 43, 44, 45, 46, 50, 51, 54, 56, 59, 60, 63, 66, 70] }
def F_wal_Log_Flush (l : Option Addr) (h : Heap) (R : Value → Heap → Prop) : Prop :=
  br (Option.isNone l) (R (Value.int IntKind.i64 (6 : Int)) h)
  (deref l fun (a0 : Addr) =>
    ∃ (t1 : Bool),
      cell h (Addr.add a0 (5 : Nat)) = some (Value.bool t1) ∧
        br t1 (R (Value.int IntKind.i64 (6 : Int)) h)
          (deref l fun (a2 : Addr) =>
            ∃ (p3 : Option Addr),
              cell h (Addr.add a2 (0 : Nat)) = some (Value.pointer p3) ∧
                CallsH Try.prog n_device_Device_Flush #[Value.pointer p3] h fun (v4 : Value) (h5 : Heap) =>
                  ∃ (n6 : Int),
                    v4 = Value.int IntKind.i64 n6 ∧
                      CallsH Try.prog n_wal_Log_done #[Value.pointer l, Value.int IntKind.i64 n6] h5 fun (v7 : Value) (h8 : Heap) =>
                        ∃ (n9 : Int), v7 = Value.int IntKind.i64 n9 ∧ R (Value.int IntKind.i64 n9) h8))
theorem C_wal_Log_Flush (l : Option Addr) {h : Heap} {R : Value → Heap → Prop} (H : F_wal_Log_Flush l h R) : CallsH Try.prog n_wal_Log_Flush [(.pointer l)].toArray h R :=
  fn_sound (A := A_wal_Log_Flush) (Eq.mp (by kernel_rfl : F_wal_Log_Flush l h R = fnVc Go.Proofs.Try.prog A_wal_Log_Flush 29 [(.pointer l)] h R) H)

/- (*rolodex/wal.Log).Append -/
def A_wal_Log_Append : Ann := { qs := [6, 7, 12, 13, 14, 15, 17, 18, 20, 21, 22, 23, 25, 26, 32, 33, 34, 35, 36, 37, 40, 42, 43, 44, 45, 46, 50, 51, 54, 56, 59, 60, 63, 66, 70], loops := [(9, [(33, (.int .i64))])], cuts := [(14, []), (16, [])], plans := [(11, (.take 0 (.take 1 (.take 2 (.take 3 (.take 4 (.take 5 (.take 6 (.take 7 (.take 8 (.take 9 (.take 10 (.take 11 (.take 12 (.take 13 (.take 14 (.take 15 (.take 16 (.take 17 (.take 18 (.take 19 (.take 20 (.take 21 (.alt 22 (.alt 23 .done .stop) .stop)))))))))))))))))))))))), (19, (.take 0 (.take 1 (.take 2 (.take 3 (.take 4 (.take 5 (.take 6 (.take 7 (.take 8 (.take 9 (.take 10 (.take 11 (.take 12 (.take 13 (.take 14 (.take 15 (.alt 16 (.take 17 .done) .stop))))))))))))))))))] }
def F_wal_Log_Append (l : Option Addr) (b : Option Addr) (b_l : Nat) (b_c : Nat) (h : Heap) (R : Value → Heap → Prop) : Prop :=
  CallsH Try.prog n_wal_Parts #[Value.int IntKind.i64 (↑b_l : Int)] h fun (v0 : Value) (h1 : Heap) =>
  Ext h h1 ∧
    ∃ (n2 : Int),
      v0 = Value.int IntKind.i64 n2 ∧
        br (Option.isNone l) (R (Value.int IntKind.i64 (6 : Int)) h1)
          (deref l fun (a3 : Addr) =>
            ∃ (t4 : Bool),
              cell h1 (Addr.add a3 (5 : Nat)) = some (Value.bool t4) ∧
                br t4 (R (Value.int IntKind.i64 (6 : Int)) h1)
                  (br (decide ((↑b_l : Int) > (6000 : Int))) (R (Value.int IntKind.i64 (3 : Int)) h1)
                    (CallsH Try.prog n_wal_Log_Room #[Value.pointer l] h1 fun (v5 : Value) (h6 : Heap) =>
                      Ext h1 h6 ∧
                        ∃ (n7 : Int),
                          v5 = Value.int IntKind.i64 n7 ∧
                            br (decide (n2 > n7)) (R (Value.int IntKind.i64 (5 : Int)) h6)
                              (∃ (I8 : Int → Heap → Prop),
                                ∃ (μ9 : Int → Heap → Nat),
                                  I8 (0 : Int) h6 ∧
                                    ∀ (n10 : Int) (h11 : Heap),
                                      I8 n10 h11 →
                                        br (decide (n10 < n2))
                                          (deref l fun (a12 : Addr) =>
                                            ∃ (n13 : Int),
                                              cell h11 (Addr.add a12 (3 : Nat)) = some (Value.int IntKind.u32 n13) ∧
                                                deref l fun (a14 : Addr) =>
                                                  ∃ (n15 : Int),
                                                    cell h11 (Addr.add a14 (4 : Nat)) = some (Value.int IntKind.i64 n15) ∧
                                                      sliceP (1 : Nat) b (IntKind.wrap IntKind.i64 (n10 * (110 : Int)))
                                                        (minI (IntKind.wrap IntKind.i64 (IntKind.wrap IntKind.i64 (n10 + (1 : Int)) * (110 : Int))) (↑b_l : Int)) (↑b_c : Int) b_c
                                                        fun (p16 : Option Addr) (l17 c18 : Nat) =>
                                                        newBlk h11 (91 : Nat)
                                                          #[Value.int IntKind.u32 (0 : Int), Value.int IntKind.i64 (0 : Int), Value.int IntKind.i64 (0 : Int), Value.slice none (0 : Nat) (0 : Nat)]
                                                          fun (b19 : Nat) (h20 : Heap) =>
                                                          storeP (some (4 : Nat)) h20 (Addr.mk b19 (0 : Nat) none)
                                                            (Value.agg
                                                              #[Value.int IntKind.u32 n13, Value.int IntKind.i64 (IntKind.wrap IntKind.i64 (IntKind.wrap IntKind.i64 (n15 + n10) + (1 : Int))),
                                                                Value.int IntKind.i64 (0 : Int), Value.slice p16 l17 c18])
                                                            fun (h21 : Heap) =>
                                                            ∃ (J22 : PUnit → Heap → Prop),
                                                              br (n10 == (0 : Int))
                                                                  (∃ (n23 : Int),
                                                                    cell h21 (Addr.add (Addr.mk b19 (0 : Nat) none) (2 : Nat)) = some (Value.int IntKind.i64 n23) ∧
                                                                      storeP none h21 (Addr.mk (Addr.block (Addr.mk b19 (0 : Nat) none)) (Addr.off (Addr.mk b19 (0 : Nat) none) + (2 : Nat)) none)
                                                                        (Value.int IntKind.i64 (orI IntKind.i64 n23 (1 : Int))) fun (h24 : Heap) => J22 () h24)
                                                                  (J22 () h21) ∧
                                                                ∀ (x25 : PUnit) (h26 : Heap),
                                                                  J22 x25 h26 →
                                                                    ∃ (J27 : PUnit → Heap → Prop),
                                                                      br (n10 == IntKind.wrap IntKind.i64 (n2 - (1 : Int)))
                                                                          (∃ (n28 : Int),
                                                                            cell h26 (Addr.add (Addr.mk b19 (0 : Nat) none) (2 : Nat)) = some (Value.int IntKind.i64 n28) ∧
                                                                              storeP none h26
                                                                                (Addr.mk (Addr.block (Addr.mk b19 (0 : Nat) none)) (Addr.off (Addr.mk b19 (0 : Nat) none) + (2 : Nat)) none)
                                                                                (Value.int IntKind.i64 (orI IntKind.i64 n28 (2 : Int))) fun (h29 : Heap) => J27 () h29)
                                                                          (J27 () h26) ∧
                                                                        ∀ (x30 : PUnit) (h31 : Heap),
                                                                          J27 x30 h31 →
                                                                            ∃ (cs32 : Array Value),
                                                                              row h31 (Addr.mk b19 (0 : Nat) none) (4 : Nat) = some cs32 ∧
                                                                                CallsH Try.prog n_wal_part_page #[Value.agg cs32] h31 fun (v33 : Value) (h34 : Heap) =>
                                                                                  Ext h31 h34 ∧
                                                                                    ∃ (p35 : Option Addr),
                                                                                      ∃ (l36 : Nat),
                                                                                        ∃ (c37 : Nat),
                                                                                          ∃ (n38 : Int),
                                                                                            v33 = Value.tuple #[Value.slice p35 l36 c37, Value.int IntKind.i64 n38] ∧
                                                                                              br (n38 != (0 : Int)) (R (Value.int IntKind.i64 n38) h34)
                                                                                                (deref l fun (a39 : Addr) =>
                                                                                                  ∃ (p40 : Option Addr),
                                                                                                    cell h34 (Addr.add a39 (0 : Nat)) = some (Value.pointer p40) ∧
                                                                                                      deref l fun (a41 : Addr) =>
                                                                                                        ∃ (n42 : Int),
                                                                                                          cell h34 (Addr.add a41 (1 : Nat)) = some (Value.int IntKind.i64 n42) ∧
                                                                                                            deref l fun (a43 : Addr) =>
                                                                                                              ∃ (n44 : Int),
                                                                                                                cell h34 (Addr.add a43 (4 : Nat)) = some (Value.int IntKind.i64 n44) ∧
                                                                                                                  CallsH Try.prog n_device_Device_Write
                                                                                                                    #[Value.pointer p40,
                                                                                                                      Value.int IntKind.i64
                                                                                                                        (IntKind.wrap IntKind.i64 (IntKind.wrap IntKind.i64 (n42 + n44) + n10)),
                                                                                                                      Value.slice p35 l36 c37]
                                                                                                                    h34 fun (v45 : Value) (h46 : Heap) =>
                                                                                                                    ∃ (n47 : Int),
                                                                                                                      v45 = Value.int IntKind.i64 n47 ∧
                                                                                                                        br (n47 != (0 : Int))
                                                                                                                          (CallsH Try.prog n_wal_Log_done #[Value.pointer l, Value.int IntKind.i64 n47] h46
                                                                                                                            fun (v48 : Value) (h49 : Heap) =>
                                                                                                                            ∃ (n50 : Int),
                                                                                                                              v48 = Value.int IntKind.i64 n50 ∧ R (Value.int IntKind.i64 n50) h49)
                                                                                                                          (I8 (IntKind.wrap IntKind.i64 (n10 + (1 : Int))) h46 ∧
                                                                                                                            μ9 (IntKind.wrap IntKind.i64 (n10 + (1 : Int))) h46 < μ9 n10 h11)))
                                          (deref l fun (a51 : Addr) =>
                                            ∃ (n52 : Int),
                                              cell h11 (Addr.add a51 (4 : Nat)) = some (Value.int IntKind.i64 n52) ∧
                                                deref l fun (a53 : Addr) =>
                                                  storeP none h11 (Addr.mk (Addr.block a53) (Addr.off a53 + (4 : Nat)) none) (Value.int IntKind.i64 (IntKind.wrap IntKind.i64 (n52 + n2)))
                                                    fun (h54 : Heap) => R (Value.int IntKind.i64 (0 : Int)) h54)))))
theorem C_wal_Log_Append (l : Option Addr) (b : Option Addr) (b_l : Nat) (b_c : Nat) {h : Heap} {R : Value → Heap → Prop} (H : F_wal_Log_Append l b b_l b_c h R) : CallsH Try.prog n_wal_Log_Append [(.pointer l), (.slice b b_l b_c)].toArray h R :=
  fn_sound (A := A_wal_Log_Append) (Eq.mp (by kernel_rfl : F_wal_Log_Append l b b_l b_c h R = fnVc Go.Proofs.Try.prog A_wal_Log_Append 28 [(.pointer l), (.slice b b_l b_c)] h R) H)

/- rolodex/wal.Open -/
def A_wal_Open : Ann := { qs := [6, 7, 12, 13, 14, 15, 17, 18, 20, 21, 22, 23, 25, 26, 32, 33, 34, 35, 36, 37, 40, 42, 43, 44, 45, 46, 50, 51, 54, 56, 59, 60, 63, 66, 70], loops := [(6, [(3, (.int .u32)), (14, .slice), (15, (.int .i64))]), (9, [(3, (.int .u32)), (14, .slice), (15, (.int .i64)), (16, .slice), (17, (.int .u32))])], cuts := [(17, [])], plans := [(17, (.take 0 (.take 1 (.take 2 (.take 3 (.take 4 (.take 5 .done)))))))] }
def F_wal_Open (d : Option Addr) (from_ : Int) (count : Int) (least : Int) (generation : Int) (h : Heap) (R : Value → Heap → Prop) : Prop :=
  CallsH Try.prog n_wal_may #[Value.pointer d, Value.int IntKind.i64 from_, Value.int IntKind.i64 count, Value.int IntKind.u32 least, Value.int IntKind.u32 generation] h fun (v0 : Value) (h1 : Heap) =>
  Ext h h1 ∧
    ∃ (t2 : Bool),
      v0 = Value.bool t2 ∧
        br (!t2) (R (Value.tuple #[Value.pointer none, Value.slice none (0 : Nat) (0 : Nat), Value.int IntKind.i64 (1 : Int)]) h1)
          (newBlk h1 (89 : Nat) #[Value.pointer d, Value.int IntKind.i64 from_, Value.int IntKind.i64 count, Value.int IntKind.u32 generation, Value.int IntKind.i64 (0 : Int), Value.bool false]
            fun (b3 : Nat) (h4 : Heap) =>
            ∃ (I5 : Int × (Option Addr × Nat × Nat) × Int → Heap → Prop),
              ∃ (μ6 : Int × (Option Addr × Nat × Nat) × Int → Heap → Nat),
                I5 (least, (none, (0 : Nat), (0 : Nat)), (0 : Int)) h4 ∧
                  ∀ (s7 : Int × (Option Addr × Nat × Nat) × Int) (h8 : Heap),
                    I5 s7 h8 →
                      br (decide (Prod.snd (Prod.snd s7) < count))
                        (∃ (I9 : Int × (Option Addr × Nat × Nat) × Int × (Option Addr × Nat × Nat) × Int → Heap → Prop),
                          ∃ (μ10 : Int × (Option Addr × Nat × Nat) × Int × (Option Addr × Nat × Nat) × Int → Heap → Nat),
                            I9
                                (Prod.fst s7, (Prod.fst (Prod.fst (Prod.snd s7)), Prod.fst (Prod.snd (Prod.fst (Prod.snd s7))), Prod.snd (Prod.snd (Prod.fst (Prod.snd s7)))), Prod.snd (Prod.snd s7),
                                  (none, (0 : Nat), (0 : Nat)), (0 : Int))
                                h8 ∧
                              ∀ (s11 : Int × (Option Addr × Nat × Nat) × Int × (Option Addr × Nat × Nat) × Int) (h12 : Heap),
                                I9 s11 h12 →
                                  br (Prod.fst (Prod.snd (Prod.snd s11)) == count)
                                    (R
                                      (Value.tuple
                                        #[Value.pointer (some (Addr.mk b3 (0 : Nat) none)),
                                          Value.slice (Prod.fst (Prod.fst (Prod.snd s11))) (Prod.fst (Prod.snd (Prod.fst (Prod.snd s11)))) (Prod.snd (Prod.snd (Prod.fst (Prod.snd s11)))),
                                          Value.int IntKind.i64 (0 : Int)])
                                      h12)
                                    (CallsH Try.prog n_device_Device_Read #[Value.pointer d, Value.int IntKind.i64 (IntKind.wrap IntKind.i64 (from_ + Prod.fst (Prod.snd (Prod.snd s11))))] h12
                                      fun (v13 : Value) (h14 : Heap) =>
                                      Ext h12 h14 ∧
                                        ∃ (p15 : Option Addr),
                                          ∃ (l16 : Nat),
                                            ∃ (c17 : Nat),
                                              ∃ (n18 : Int),
                                                v13 = Value.tuple #[Value.slice p15 l16 c17, Value.int IntKind.i64 n18] ∧
                                                  br (n18 != (0 : Int)) (R (Value.tuple #[Value.pointer none, Value.slice none (0 : Nat) (0 : Nat), Value.int IntKind.i64 n18]) h14)
                                                    (CallsH Try.prog n_wal_parted
                                                      #[Value.slice p15 l16 c17, Value.int IntKind.i64 (IntKind.wrap IntKind.i64 (Prod.fst (Prod.snd (Prod.snd s11)) + (1 : Int))),
                                                        Value.int IntKind.u32 (Prod.fst s11)]
                                                      h14 fun (v19 : Value) (h20 : Heap) =>
                                                      Ext h14 h20 ∧
                                                        ∃ (cs21 : Array Value),
                                                          Array.size cs21 = (4 : Nat) ∧
                                                            ∃ (t22 : Bool),
                                                              v19 = Value.tuple #[Value.agg cs21, Value.bool t22] ∧
                                                                newBlk h20 (91 : Nat)
                                                                  #[Value.int IntKind.u32 (0 : Int), Value.int IntKind.i64 (0 : Int), Value.int IntKind.i64 (0 : Int),
                                                                    Value.slice none (0 : Nat) (0 : Nat)]
                                                                  fun (b23 : Nat) (h24 : Heap) =>
                                                                  storeP (some (4 : Nat)) h24 (Addr.mk b23 (0 : Nat) none) (Value.agg cs21) fun (h25 : Heap) =>
                                                                    ∃ (J26 : PUnit → Heap → Prop),
                                                                      br (!t22)
                                                                          (R
                                                                            (Value.tuple
                                                                              #[Value.pointer (some (Addr.mk b3 (0 : Nat) none)),
                                                                                Value.slice (Prod.fst (Prod.fst (Prod.snd s11))) (Prod.fst (Prod.snd (Prod.fst (Prod.snd s11))))
                                                                                  (Prod.snd (Prod.snd (Prod.fst (Prod.snd s11)))),
                                                                                Value.int IntKind.i64 (0 : Int)])
                                                                            h25)
                                                                          (∃ (n27 : Int),
                                                                            cell h25 (Addr.add (Addr.mk b23 (0 : Nat) none) (2 : Nat)) = some (Value.int IntKind.i64 n27) ∧
                                                                              br (!(Prod.snd (Prod.snd (Prod.snd (Prod.snd s11))) == (0 : Int)) == (andI IntKind.i64 n27 (1 : Int) != (0 : Int)))
                                                                                (R
                                                                                  (Value.tuple
                                                                                    #[Value.pointer (some (Addr.mk b3 (0 : Nat) none)),
                                                                                      Value.slice (Prod.fst (Prod.fst (Prod.snd s11))) (Prod.fst (Prod.snd (Prod.fst (Prod.snd s11))))
                                                                                        (Prod.snd (Prod.snd (Prod.fst (Prod.snd s11)))),
                                                                                      Value.int IntKind.i64 (0 : Int)])
                                                                                  h25)
                                                                                (br (Prod.snd (Prod.snd (Prod.snd (Prod.snd s11))) != (0 : Int))
                                                                                  (∃ (n28 : Int),
                                                                                    cell h25 (Addr.add (Addr.mk b23 (0 : Nat) none) (0 : Nat)) = some (Value.int IntKind.u32 n28) ∧
                                                                                      br (n28 != Prod.snd (Prod.snd (Prod.snd (Prod.snd s11))))
                                                                                        (R
                                                                                          (Value.tuple
                                                                                            #[Value.pointer (some (Addr.mk b3 (0 : Nat) none)),
                                                                                              Value.slice (Prod.fst (Prod.fst (Prod.snd s11))) (Prod.fst (Prod.snd (Prod.fst (Prod.snd s11))))
                                                                                                (Prod.snd (Prod.snd (Prod.fst (Prod.snd s11)))),
                                                                                              Value.int IntKind.i64 (0 : Int)])
                                                                                          h25)
                                                                                        (J26 () h25))
                                                                                  (J26 () h25))) ∧
                                                                        ∀ (x29 : PUnit) (h30 : Heap),
                                                                          J26 x29 h30 →
                                                                            ∃ (n31 : Int),
                                                                              cell h30 (Addr.add (Addr.mk b23 (0 : Nat) none) (0 : Nat)) = some (Value.int IntKind.u32 n31) ∧
                                                                                ∃ (n32 : Int),
                                                                                  cell h30 (Addr.add (Addr.mk b23 (0 : Nat) none) (0 : Nat)) = some (Value.int IntKind.u32 n32) ∧
                                                                                    ∃ (p33 : Option Addr),
                                                                                      ∃ (l34 : Nat),
                                                                                        ∃ (c35 : Nat),
                                                                                          cell h30 (Addr.add (Addr.mk b23 (0 : Nat) none) (3 : Nat)) = some (Value.slice p33 l34 c35) ∧
                                                                                            appendP (5 : Nat) (1 : Nat) (1 : Nat) #[Value.int IntKind.u8 (0 : Int)]
                                                                                              (Prod.fst (Prod.fst (Prod.snd (Prod.snd (Prod.snd s11)))))
                                                                                              (Prod.fst (Prod.snd (Prod.fst (Prod.snd (Prod.snd (Prod.snd s11))))))
                                                                                              (Prod.snd (Prod.snd (Prod.fst (Prod.snd (Prod.snd (Prod.snd s11)))))) p33 l34 h30
                                                                                              fun (p36 : Option Addr) (l37 c38 : Nat) (h39 : Heap) =>
                                                                                              br (decide ((↑l37 : Int) > (6000 : Int)))
                                                                                                (R
                                                                                                  (Value.tuple
                                                                                                    #[Value.pointer (some (Addr.mk b3 (0 : Nat) none)),
                                                                                                      Value.slice (Prod.fst (Prod.fst (Prod.snd s11))) (Prod.fst (Prod.snd (Prod.fst (Prod.snd s11))))
                                                                                                        (Prod.snd (Prod.snd (Prod.fst (Prod.snd s11)))),
                                                                                                      Value.int IntKind.i64 (0 : Int)])
                                                                                                  h39)
                                                                                                (∃ (n40 : Int),
                                                                                                  cell h39 (Addr.add (Addr.mk b23 (0 : Nat) none) (2 : Nat)) = some (Value.int IntKind.i64 n40) ∧
                                                                                                    br (andI IntKind.i64 n40 (2 : Int) != (0 : Int))
                                                                                                      (newBlk h39 (22 : Nat) #[Value.slice p36 l37 c38] fun (b41 : Nat) (h42 : Heap) =>
                                                                                                        appendP (22 : Nat) (1 : Nat) (24 : Nat) #[Value.slice none (0 : Nat) (0 : Nat)]
                                                                                                          (Prod.fst (Prod.fst (Prod.snd s11))) (Prod.fst (Prod.snd (Prod.fst (Prod.snd s11))))
                                                                                                          (Prod.snd (Prod.snd (Prod.fst (Prod.snd s11)))) (some (Addr.mk b41 (0 : Nat) none)) (1 : Nat)
                                                                                                          h42 fun (p43 : Option Addr) (l44 c45 : Nat) (h46 : Heap) =>
                                                                                                          storeP none h46
                                                                                                            (Addr.mk (Addr.block (Addr.mk b3 (0 : Nat) none))
                                                                                                              (Addr.off (Addr.mk b3 (0 : Nat) none) + (4 : Nat)) none)
                                                                                                            (Value.int IntKind.i64
                                                                                                              (IntKind.wrap IntKind.i64 (Prod.fst (Prod.snd (Prod.snd s11)) + (1 : Int))))
                                                                                                            fun (h47 : Heap) =>
                                                                                                            I5
                                                                                                                (n32, (p43, l44, c45),
                                                                                                                  IntKind.wrap IntKind.i64 (Prod.fst (Prod.snd (Prod.snd s11)) + (1 : Int)))
                                                                                                                h47 ∧
                                                                                                              μ6
                                                                                                                  (n32, (p43, l44, c45),
                                                                                                                    IntKind.wrap IntKind.i64 (Prod.fst (Prod.snd (Prod.snd s11)) + (1 : Int)))
                                                                                                                  h47 <
                                                                                                                μ6 s7 h8)
                                                                                                      (I9
                                                                                                          (n32,
                                                                                                            (Prod.fst (Prod.fst (Prod.snd s11)), Prod.fst (Prod.snd (Prod.fst (Prod.snd s11))),
                                                                                                              Prod.snd (Prod.snd (Prod.fst (Prod.snd s11)))),
                                                                                                            IntKind.wrap IntKind.i64 (Prod.fst (Prod.snd (Prod.snd s11)) + (1 : Int)), (p36, l37, c38),
                                                                                                            n31)
                                                                                                          h39 ∧
                                                                                                        μ10
                                                                                                            (n32,
                                                                                                              (Prod.fst (Prod.fst (Prod.snd s11)), Prod.fst (Prod.snd (Prod.fst (Prod.snd s11))),
                                                                                                                Prod.snd (Prod.snd (Prod.fst (Prod.snd s11)))),
                                                                                                              IntKind.wrap IntKind.i64 (Prod.fst (Prod.snd (Prod.snd s11)) + (1 : Int)),
                                                                                                              (p36, l37, c38), n31)
                                                                                                            h39 <
                                                                                                          μ10 s11 h12)))))
                        (R
                          (Value.tuple
                            #[Value.pointer (some (Addr.mk b3 (0 : Nat) none)),
                              Value.slice (Prod.fst (Prod.fst (Prod.snd s7))) (Prod.fst (Prod.snd (Prod.fst (Prod.snd s7)))) (Prod.snd (Prod.snd (Prod.fst (Prod.snd s7)))),
                              Value.int IntKind.i64 (0 : Int)])
                          h8))
theorem C_wal_Open (d : Option Addr) (from_ : Int) (count : Int) (least : Int) (generation : Int) {h : Heap} {R : Value → Heap → Prop} (H : F_wal_Open d from_ count least generation h R) : CallsH Try.prog n_wal_Open [(.pointer d), (.int .i64 from_), (.int .i64 count), (.int .u32 least), (.int .u32 generation)].toArray h R :=
  fn_sound (A := A_wal_Open) (Eq.mp (by kernel_rfl : F_wal_Open d from_ count least generation h R = fnVc Go.Proofs.Try.prog A_wal_Open 25 [(.pointer d), (.int .i64 from_), (.int .i64 count), (.int .u32 least), (.int .u32 generation)] h R) H)

end Go.Proofs.Ytbmhphnidfpclaa
