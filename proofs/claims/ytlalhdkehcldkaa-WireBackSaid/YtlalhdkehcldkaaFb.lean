/- The formulas of some functions, and that each is what its code comes to. Written by a program of ours. -/
import Derived.Test.YtlalhdkehcldkaaVcO
import Derived.Test.YtlalhdkehcldkaaNm
import Derived.Test.YtlalhdkehcldkaaProg
import Derived.KernelRfl
set_option linter.unusedVariables false
set_option maxRecDepth 100000
namespace Go.Proofs.Ytlalhdkehcldkaa
open Go Go.Vc Go.Proofs

/- rolodex/rolodexref01.Same -/
def A_ref01_Same : Ann := { qs := [9, 11, 12, 14, 15, 16, 18, 24, 25, 26, 27, 28, 30, 34, 44, 45, 47], loops := [(4, [(5, (.int .i64))])], plans := [(6, (.take 0 (.take 1 (.take 2 (.take 3 (.take 4 (.take 5 (.take 6 (.take 7 (.take 8 .done))))))))))] }
def F_ref01_Same (a : Option Addr) (a_l : Nat) (a_c : Nat) (b : Option Addr) (b_l : Nat) (b_c : Nat) (h : Heap) (R : Value → Heap → Prop) : Prop :=
  br ((↑a_l : Int) != (↑b_l : Int)) (R (Value.bool false) h)
  (∃ (I0 : Int → Heap → Prop),
    ∃ (μ1 : Int → Heap → Nat),
      I0 (0 : Int) h ∧
        ∀ (n2 : Int) (h3 : Heap),
          I0 n2 h3 →
            br (decide (n2 < (↑a_l : Int)))
              ((0 : Int) ≤ n2 ∧
                n2 < (↑a_l : Int) ∧
                  deref a fun (a4 : Addr) =>
                    ∃ (n5 : Int),
                      cell h3 (Addr.add a4 (Int.toNat n2 * (1 : Nat))) = some (Value.int IntKind.u8 n5) ∧
                        (0 : Int) ≤ n2 ∧
                          n2 < (↑b_l : Int) ∧
                            deref b fun (a6 : Addr) =>
                              ∃ (n7 : Int),
                                cell h3 (Addr.add a6 (Int.toNat n2 * (1 : Nat))) = some (Value.int IntKind.u8 n7) ∧
                                  br (n5 != n7) (R (Value.bool false) h3) (I0 (IntKind.wrap IntKind.i64 (n2 + (1 : Int))) h3 ∧ μ1 (IntKind.wrap IntKind.i64 (n2 + (1 : Int))) h3 < μ1 n2 h3))
              (R (Value.bool true) h3))
theorem C_ref01_Same (a : Option Addr) (a_l : Nat) (a_c : Nat) (b : Option Addr) (b_l : Nat) (b_c : Nat) {h : Heap} {R : Value → Heap → Prop} (H : F_ref01_Same a a_l a_c b b_l b_c h R) : CallsH Try.prog n_ref01_Same [(.slice a a_l a_c), (.slice b b_l b_c)].toArray h R :=
  fn_sound (A := A_ref01_Same) (Eq.mp (by kernel_rfl : F_ref01_Same a a_l a_c b b_l b_c h R = fnVc Go.Proofs.Try.prog A_ref01_Same 14 [(.slice a a_l a_c), (.slice b b_l b_c)] h R) H)

/- rolodex/rolodexref01.Few -/
def A_ref01_Few : Ann := { qs := [9, 11, 12, 14, 15, 16, 18, 24, 25, 26, 27, 28, 30, 34, 44, 45, 47], loops := [(2, [(5, (.int .i64))])] }
def F_ref01_Few (l : Option Addr) (l_l : Nat) (l_c : Nat) (n : Int) (h : Heap) (R : Value → Heap → Prop) : Prop :=
  ∃ (I0 : Int → Heap → Prop),
  ∃ (μ1 : Int → Heap → Nat),
    I0 (0 : Int) h ∧
      ∀ (n2 : Int) (h3 : Heap),
        I0 n2 h3 →
          br (decide (n2 < (↑l_l : Int)))
            (br (decide (n2 < (200 : Int)))
              ((0 : Int) ≤ n2 ∧
                n2 < (↑l_l : Int) ∧
                  deref l fun (a4 : Addr) =>
                    ∃ (p5 : Option Addr),
                      ∃ (l6 : Nat),
                        ∃ (c7 : Nat),
                          cell h3 (Addr.add (Addr.add a4 (Int.toNat n2 * (3 : Nat))) (2 : Nat)) = some (Value.slice p5 l6 c7) ∧
                            br (decide ((↑l6 : Int) > (9000 : Int))) (R (Value.bool false) h3)
                              (I0 (IntKind.wrap IntKind.i64 (n2 + (1 : Int))) h3 ∧ μ1 (IntKind.wrap IntKind.i64 (n2 + (1 : Int))) h3 < μ1 n2 h3))
              (R (Value.bool (decide ((↑l_l : Int) ≤ n))) h3))
            (R (Value.bool (decide ((↑l_l : Int) ≤ n))) h3)
theorem C_ref01_Few (l : Option Addr) (l_l : Nat) (l_c : Nat) (n : Int) {h : Heap} {R : Value → Heap → Prop} (H : F_ref01_Few l l_l l_c n h R) : CallsH Try.prog n_ref01_Few [(.slice l l_l l_c), (.int .i64 n)].toArray h R :=
  fn_sound (A := A_ref01_Few) (Eq.mp (by kernel_rfl : F_ref01_Few l l_l l_c n h R = fnVc Go.Proofs.Try.prog A_ref01_Few 15 [(.slice l l_l l_c), (.int .i64 n)] h R) H)

/- rolodex/rolodexref01.All -/
def A_ref01_All : Ann := { qs := [9, 11, 12, 14, 15, 16, 18, 24, 25, 26, 27, 28, 30, 34, 44, 45, 47], loops := [(3, [(4, .slice), (5, (.int .i64))])] }
def F_ref01_All (l : Option Addr) (l_l : Nat) (l_c : Nat) (h : Heap) (R : Value → Heap → Prop) : Prop :=
  ∃ (I0 : (Option Addr × Nat × Nat) × Int → Heap → Prop),
  ∃ (μ1 : (Option Addr × Nat × Nat) × Int → Heap → Nat),
    I0 ((none, (0 : Nat), (0 : Nat)), (0 : Int)) h ∧
      ∀ (s2 : (Option Addr × Nat × Nat) × Int) (h3 : Heap),
        I0 s2 h3 →
          br (decide (Prod.snd s2 < (↑l_l : Int)))
            ((0 : Int) ≤ Prod.snd s2 ∧
              Prod.snd s2 < (↑l_l : Int) ∧
                deref l fun (a4 : Addr) =>
                  ∃ (cs5 : Array Value),
                    row h3 (Addr.add a4 (Int.toNat (Prod.snd s2) * (3 : Nat))) (3 : Nat) = some cs5 ∧
                      CallsH Try.prog n_ref01_Bytes #[Value.agg cs5] h3 fun (v6 : Value) (h7 : Heap) =>
                        Ext h3 h7 ∧
                          ∃ (p8 : Option Addr),
                            ∃ (l9 : Nat),
                              ∃ (c10 : Nat),
                                ∃ (t11 : Bool),
                                  v6 = Value.tuple #[Value.slice p8 l9 c10, Value.bool t11] ∧
                                    br (!t11) (R (Value.tuple #[Value.slice none (0 : Nat) (0 : Nat), Value.bool false]) h7)
                                      (appendP (5 : Nat) (1 : Nat) (1 : Nat) #[Value.int IntKind.u8 (0 : Int)] (Prod.fst (Prod.fst s2)) (Prod.fst (Prod.snd (Prod.fst s2)))
                                        (Prod.snd (Prod.snd (Prod.fst s2))) p8 l9 h7 fun (p12 : Option Addr) (l13 c14 : Nat) (h15 : Heap) =>
                                        I0 ((p12, l13, c14), IntKind.wrap IntKind.i64 (Prod.snd s2 + (1 : Int))) h15 ∧
                                          μ1 ((p12, l13, c14), IntKind.wrap IntKind.i64 (Prod.snd s2 + (1 : Int))) h15 < μ1 s2 h3))
            (R (Value.tuple #[Value.slice (Prod.fst (Prod.fst s2)) (Prod.fst (Prod.snd (Prod.fst s2))) (Prod.snd (Prod.snd (Prod.fst s2))), Value.bool true]) h3)
theorem C_ref01_All (l : Option Addr) (l_l : Nat) (l_c : Nat) {h : Heap} {R : Value → Heap → Prop} (H : F_ref01_All l l_l l_c h R) : CallsH Try.prog n_ref01_All [(.slice l l_l l_c)].toArray h R :=
  fn_sound (A := A_ref01_All) (Eq.mp (by kernel_rfl : F_ref01_All l l_l l_c h R = fnVc Go.Proofs.Try.prog A_ref01_All 18 [(.slice l l_l l_c)] h R) H)

/- rolodex/rolodexref01.Take -/
def A_ref01_Take : Ann := { qs := [9, 11, 12, 14, 15, 16, 18, 24, 25, 26, 27, 28, 30, 34, 44, 45, 47], cuts := [(10, [(10, (.int .i64))]), (15, [])], plans := [(6, (.take 0 (.take 1 (.take 2 (.take 3 (.alt 4 (.take 5 (.take 6 .done)) .stop)))))), (19, (.take 0 (.take 1 (.take 2 (.take 3 (.take 4 (.alt 5 (.take 6 (.take 7 .done)) .stop))))))), (21, (.take 0 (.take 1 (.take 2 (.take 3 (.alt 4 (.take 5 (.take 6 .done)) .stop))))))] }
def F_ref01_Take (b : Option Addr) (b_l : Nat) (b_c : Nat) (kind : Int) (most : Int) (h : Heap) (R : Value → Heap → Prop) : Prop :=
  newBlk h (42 : Nat) #[Value.int IntKind.i64 (0 : Int), Value.int IntKind.u64 (0 : Int), Value.slice none (0 : Nat) (0 : Nat)] fun (b0 : Nat) (h1 : Heap) =>
  newBlk h1 (42 : Nat) #[Value.int IntKind.i64 (0 : Int), Value.int IntKind.u64 (0 : Int), Value.slice none (0 : Nat) (0 : Nat)] fun (b2 : Nat) (h3 : Heap) =>
    storeP (some (3 : Nat)) h3 (Addr.mk b2 (0 : Nat) none) (Value.agg #[Value.int IntKind.i64 kind, Value.int IntKind.u64 (0 : Int), Value.slice none (0 : Nat) (0 : Nat)]) fun (h4 : Heap) =>
      br (kind == (6 : Int))
        (br (decide (most > IntKind.wrap IntKind.u64 (↑b_l : Int)))
          (storeP (some (3 : Nat)) h4 (Addr.mk b0 (0 : Nat) none) (Value.agg #[Value.int IntKind.i64 (0 : Int), Value.int IntKind.u64 (0 : Int), Value.slice none (0 : Nat) (0 : Nat)])
            fun (h5 : Heap) => ∃ (cs6 : Array Value), row h5 (Addr.mk b0 (0 : Nat) none) (3 : Nat) = some cs6 ∧ R (Value.tuple #[Value.agg cs6, Value.slice b b_l b_c, Value.bool false]) h5)
          (sliceP (1 : Nat) b (0 : Int) most (↑b_c : Int) b_c fun (p7 : Option Addr) (l8 c9 : Nat) =>
            storeP none h4 (Addr.mk (Addr.block (Addr.mk b2 (0 : Nat) none)) (Addr.off (Addr.mk b2 (0 : Nat) none) + (2 : Nat)) none) (Value.slice p7 l8 c9) fun (h10 : Heap) =>
              ∃ (cs11 : Array Value),
                row h10 (Addr.mk b2 (0 : Nat) none) (3 : Nat) = some cs11 ∧
                  sliceP (1 : Nat) b most (↑b_l : Int) (↑b_c : Int) b_c fun (p12 : Option Addr) (l13 c14 : Nat) =>
                    storeP (some (3 : Nat)) h10 (Addr.mk b0 (0 : Nat) none) (Value.agg cs11) fun (h15 : Heap) =>
                      ∃ (cs16 : Array Value), row h15 (Addr.mk b0 (0 : Nat) none) (3 : Nat) = some cs16 ∧ R (Value.tuple #[Value.agg cs16, Value.slice p12 l13 c14, Value.bool true]) h15))
        (CallsH Try.prog n_ref01_Size #[Value.int IntKind.i64 kind] h4 fun (v17 : Value) (h18 : Heap) =>
          Ext h4 h18 ∧
            ∃ (n19 : Int),
              v17 = Value.int IntKind.i64 n19 ∧
                ∃ (J20 : Int → Heap → Prop),
                  br (kind == (7 : Int)) (J20 (2 : Int) h18) (J20 n19 h18) ∧
                    ∀ (n21 : Int) (h22 : Heap),
                      J20 n21 h22 →
                        br (decide ((↑b_l : Int) < n21))
                          (storeP (some (3 : Nat)) h22 (Addr.mk b0 (0 : Nat) none) (Value.agg #[Value.int IntKind.i64 (0 : Int), Value.int IntKind.u64 (0 : Int), Value.slice none (0 : Nat) (0 : Nat)])
                            fun (h23 : Heap) =>
                            ∃ (cs24 : Array Value), row h23 (Addr.mk b0 (0 : Nat) none) (3 : Nat) = some cs24 ∧ R (Value.tuple #[Value.agg cs24, Value.slice b b_l b_c, Value.bool false]) h23)
                          (sliceP (1 : Nat) b (0 : Int) n21 (↑b_c : Int) b_c fun (p25 : Option Addr) (l26 c27 : Nat) =>
                            CallsH Try.prog n_ref01_Value #[Value.slice p25 l26 c27] h22 fun (v28 : Value) (h29 : Heap) =>
                              Ext h22 h29 ∧
                                ∃ (n30 : Int),
                                  v28 = Value.int IntKind.u64 n30 ∧
                                    ∃ (J31 : PUnit → Heap → Prop),
                                      br (kind == (5 : Int))
                                          (br (decide (n30 > (1 : Int)))
                                            (storeP (some (3 : Nat)) h29 (Addr.mk b0 (0 : Nat) none)
                                              (Value.agg #[Value.int IntKind.i64 (0 : Int), Value.int IntKind.u64 (0 : Int), Value.slice none (0 : Nat) (0 : Nat)]) fun (h32 : Heap) =>
                                              ∃ (cs33 : Array Value),
                                                row h32 (Addr.mk b0 (0 : Nat) none) (3 : Nat) = some cs33 ∧ R (Value.tuple #[Value.agg cs33, Value.slice b b_l b_c, Value.bool false]) h32)
                                            (br (kind == (8 : Int))
                                              (br (decide (n30 > most))
                                                (storeP (some (3 : Nat)) h29 (Addr.mk b0 (0 : Nat) none)
                                                  (Value.agg #[Value.int IntKind.i64 (0 : Int), Value.int IntKind.u64 (0 : Int), Value.slice none (0 : Nat) (0 : Nat)]) fun (h34 : Heap) =>
                                                  ∃ (cs35 : Array Value),
                                                    row h34 (Addr.mk b0 (0 : Nat) none) (3 : Nat) = some cs35 ∧ R (Value.tuple #[Value.agg cs35, Value.slice b b_l b_c, Value.bool false]) h34)
                                                (br (decide (n30 > (4096 : Int)))
                                                  (storeP (some (3 : Nat)) h29 (Addr.mk b0 (0 : Nat) none)
                                                    (Value.agg #[Value.int IntKind.i64 (0 : Int), Value.int IntKind.u64 (0 : Int), Value.slice none (0 : Nat) (0 : Nat)]) fun (h36 : Heap) =>
                                                    ∃ (cs37 : Array Value),
                                                      row h36 (Addr.mk b0 (0 : Nat) none) (3 : Nat) = some cs37 ∧ R (Value.tuple #[Value.agg cs37, Value.slice b b_l b_c, Value.bool false]) h36)
                                                  (J31 () h29)))
                                              (J31 () h29)))
                                          (br (kind == (8 : Int))
                                            (br (decide (n30 > most))
                                              (storeP (some (3 : Nat)) h29 (Addr.mk b0 (0 : Nat) none)
                                                (Value.agg #[Value.int IntKind.i64 (0 : Int), Value.int IntKind.u64 (0 : Int), Value.slice none (0 : Nat) (0 : Nat)]) fun (h38 : Heap) =>
                                                ∃ (cs39 : Array Value),
                                                  row h38 (Addr.mk b0 (0 : Nat) none) (3 : Nat) = some cs39 ∧ R (Value.tuple #[Value.agg cs39, Value.slice b b_l b_c, Value.bool false]) h38)
                                              (br (decide (n30 > (4096 : Int)))
                                                (storeP (some (3 : Nat)) h29 (Addr.mk b0 (0 : Nat) none)
                                                  (Value.agg #[Value.int IntKind.i64 (0 : Int), Value.int IntKind.u64 (0 : Int), Value.slice none (0 : Nat) (0 : Nat)]) fun (h40 : Heap) =>
                                                  ∃ (cs41 : Array Value),
                                                    row h40 (Addr.mk b0 (0 : Nat) none) (3 : Nat) = some cs41 ∧ R (Value.tuple #[Value.agg cs41, Value.slice b b_l b_c, Value.bool false]) h40)
                                                (J31 () h29)))
                                            (J31 () h29)) ∧
                                        ∀ (x42 : PUnit) (h43 : Heap),
                                          J31 x42 h43 →
                                            br (kind == (7 : Int))
                                              (br (decide (n30 > most))
                                                (storeP (some (3 : Nat)) h43 (Addr.mk b0 (0 : Nat) none)
                                                  (Value.agg #[Value.int IntKind.i64 (0 : Int), Value.int IntKind.u64 (0 : Int), Value.slice none (0 : Nat) (0 : Nat)]) fun (h44 : Heap) =>
                                                  ∃ (cs45 : Array Value),
                                                    row h44 (Addr.mk b0 (0 : Nat) none) (3 : Nat) = some cs45 ∧ R (Value.tuple #[Value.agg cs45, Value.slice b b_l b_c, Value.bool false]) h44)
                                                (br (decide (n30 > (8192 : Int)))
                                                  (storeP (some (3 : Nat)) h43 (Addr.mk b0 (0 : Nat) none)
                                                    (Value.agg #[Value.int IntKind.i64 (0 : Int), Value.int IntKind.u64 (0 : Int), Value.slice none (0 : Nat) (0 : Nat)]) fun (h46 : Heap) =>
                                                    ∃ (cs47 : Array Value),
                                                      row h46 (Addr.mk b0 (0 : Nat) none) (3 : Nat) = some cs47 ∧ R (Value.tuple #[Value.agg cs47, Value.slice b b_l b_c, Value.bool false]) h46)
                                                  (br (decide (n30 > IntKind.wrap IntKind.u64 (IntKind.wrap IntKind.i64 ((↑b_l : Int) - (2 : Int)))))
                                                    (storeP (some (3 : Nat)) h43 (Addr.mk b0 (0 : Nat) none)
                                                      (Value.agg #[Value.int IntKind.i64 (0 : Int), Value.int IntKind.u64 (0 : Int), Value.slice none (0 : Nat) (0 : Nat)]) fun (h48 : Heap) =>
                                                      ∃ (cs49 : Array Value),
                                                        row h48 (Addr.mk b0 (0 : Nat) none) (3 : Nat) = some cs49 ∧ R (Value.tuple #[Value.agg cs49, Value.slice b b_l b_c, Value.bool false]) h48)
                                                    (sliceP (1 : Nat) b (2 : Int) (IntKind.wrap IntKind.u64 ((2 : Int) + n30)) (↑b_c : Int) b_c fun (p50 : Option Addr) (l51 c52 : Nat) =>
                                                      storeP none h43 (Addr.mk (Addr.block (Addr.mk b2 (0 : Nat) none)) (Addr.off (Addr.mk b2 (0 : Nat) none) + (2 : Nat)) none)
                                                        (Value.slice p50 l51 c52) fun (h53 : Heap) =>
                                                        ∃ (cs54 : Array Value),
                                                          row h53 (Addr.mk b2 (0 : Nat) none) (3 : Nat) = some cs54 ∧
                                                            sliceP (1 : Nat) b (IntKind.wrap IntKind.u64 ((2 : Int) + n30)) (↑b_l : Int) (↑b_c : Int) b_c fun (p55 : Option Addr) (l56 c57 : Nat) =>
                                                              storeP (some (3 : Nat)) h53 (Addr.mk b0 (0 : Nat) none) (Value.agg cs54) fun (h58 : Heap) =>
                                                                ∃ (cs59 : Array Value),
                                                                  row h58 (Addr.mk b0 (0 : Nat) none) (3 : Nat) = some cs59 ∧
                                                                    R (Value.tuple #[Value.agg cs59, Value.slice p55 l56 c57, Value.bool true]) h58))))
                                              (storeP none h43 (Addr.mk (Addr.block (Addr.mk b2 (0 : Nat) none)) (Addr.off (Addr.mk b2 (0 : Nat) none) + (1 : Nat)) none) (Value.int IntKind.u64 n30)
                                                fun (h60 : Heap) =>
                                                ∃ (cs61 : Array Value),
                                                  row h60 (Addr.mk b2 (0 : Nat) none) (3 : Nat) = some cs61 ∧
                                                    sliceP (1 : Nat) b n21 (↑b_l : Int) (↑b_c : Int) b_c fun (p62 : Option Addr) (l63 c64 : Nat) =>
                                                      storeP (some (3 : Nat)) h60 (Addr.mk b0 (0 : Nat) none) (Value.agg cs61) fun (h65 : Heap) =>
                                                        ∃ (cs66 : Array Value),
                                                          row h65 (Addr.mk b0 (0 : Nat) none) (3 : Nat) = some cs66 ∧ R (Value.tuple #[Value.agg cs66, Value.slice p62 l63 c64, Value.bool true]) h65)))
theorem C_ref01_Take (b : Option Addr) (b_l : Nat) (b_c : Nat) (kind : Int) (most : Int) {h : Heap} {R : Value → Heap → Prop} (H : F_ref01_Take b b_l b_c kind most h R) : CallsH Try.prog n_ref01_Take [(.slice b b_l b_c), (.int .i64 kind), (.int .u64 most)].toArray h R :=
  fn_sound (A := A_ref01_Take) (Eq.mp (by kernel_rfl : F_ref01_Take b b_l b_c kind most h R = fnVc Go.Proofs.Try.prog A_ref01_Take 24 [(.slice b b_l b_c), (.int .i64 kind), (.int .u64 most)] h R) H)

/- rolodex/rolodexref01.Size -/
def A_ref01_Size : Ann := { qs := [9, 11, 12, 14, 15, 16, 18, 24, 25, 26, 27, 28, 30, 34, 44, 45, 47] }
def F_ref01_Size (kind : Int) (h : Heap) (R : Value → Heap → Prop) : Prop :=
  br (kind == (1 : Int)) (R (Value.int IntKind.i64 (1 : Int)) h)
  (br (kind == (5 : Int)) (R (Value.int IntKind.i64 (1 : Int)) h)
    (br (kind == (2 : Int)) (R (Value.int IntKind.i64 (2 : Int)) h)
      (br (kind == (8 : Int)) (R (Value.int IntKind.i64 (2 : Int)) h)
        (br (kind == (3 : Int)) (R (Value.int IntKind.i64 (4 : Int)) h) (br (kind == (4 : Int)) (R (Value.int IntKind.i64 (8 : Int)) h) (R (Value.int IntKind.i64 (0 : Int)) h))))))
theorem C_ref01_Size (kind : Int) {h : Heap} {R : Value → Heap → Prop} (H : F_ref01_Size kind h R) : CallsH Try.prog n_ref01_Size [(.int .i64 kind)].toArray h R :=
  fn_sound (A := A_ref01_Size) (Eq.mp (by kernel_rfl : F_ref01_Size kind h R = fnVc Go.Proofs.Try.prog A_ref01_Size 28 [(.int .i64 kind)] h R) H)

/- rolodex/rolodexref01.Bytes -/
def A_ref01_Bytes : Ann := { qs := [9, 11, 12, 14, 15, 16, 18, 24, 25, 26, 27, 28, 30, 34, 44, 45, 47], plans := [(3, (.take 0 (.take 1 (.take 3 (.take 4 (.take 5 (.alt 2 (.take 6 (.take 7 .done)) .stop))))))), (5, (.take 0 (.take 1 (.take 3 (.take 4 (.take 5 (.alt 2 (.take 6 (.take 7 .done)) .stop))))))), (20, (.take 0 (.take 1 (.take 3 (.take 4 (.take 5 (.alt 2 (.take 6 (.take 7 .done)) .stop)))))))] }
def F_ref01_Bytes (f : Array Value) (h : Heap) (R : Value → Heap → Prop) : Prop :=
  newBlk h (42 : Nat) f fun (b0 : Nat) (h1 : Heap) =>
  ∃ (n2 : Int),
    cell h1 (Addr.add (Addr.mk b0 (0 : Nat) none) (0 : Nat)) = some (Value.int IntKind.i64 n2) ∧
      br (n2 == (1 : Int))
        (∃ (n3 : Int),
          cell h1 (Addr.add (Addr.mk b0 (0 : Nat) none) (1 : Nat)) = some (Value.int IntKind.u64 n3) ∧
            ∃ (n4 : Int),
              cell h1 (Addr.add (Addr.mk b0 (0 : Nat) none) (1 : Nat)) = some (Value.int IntKind.u64 n4) ∧
                CallsH Try.prog n_ref01_Number #[Value.int IntKind.u64 n3, Value.int IntKind.i64 (1 : Int)] h1 fun (v5 : Value) (h6 : Heap) =>
                  Ext h1 h6 ∧ ∃ (p7 : Option Addr), ∃ (l8 : Nat), ∃ (c9 : Nat), v5 = Value.slice p7 l8 c9 ∧ R (Value.tuple #[Value.slice p7 l8 c9, Value.bool (decide (n4 ≤ (255 : Int)))]) h6)
        (br (n2 == (2 : Int))
          (∃ (n10 : Int),
            cell h1 (Addr.add (Addr.mk b0 (0 : Nat) none) (1 : Nat)) = some (Value.int IntKind.u64 n10) ∧
              ∃ (n11 : Int),
                cell h1 (Addr.add (Addr.mk b0 (0 : Nat) none) (1 : Nat)) = some (Value.int IntKind.u64 n11) ∧
                  CallsH Try.prog n_ref01_Number #[Value.int IntKind.u64 n10, Value.int IntKind.i64 (2 : Int)] h1 fun (v12 : Value) (h13 : Heap) =>
                    Ext h1 h13 ∧
                      ∃ (p14 : Option Addr), ∃ (l15 : Nat), ∃ (c16 : Nat), v12 = Value.slice p14 l15 c16 ∧ R (Value.tuple #[Value.slice p14 l15 c16, Value.bool (decide (n11 ≤ (65535 : Int)))]) h13)
          (br (n2 == (3 : Int))
            (∃ (n17 : Int),
              cell h1 (Addr.add (Addr.mk b0 (0 : Nat) none) (1 : Nat)) = some (Value.int IntKind.u64 n17) ∧
                (4294967296 : Int) ≠ (0 : Int) ∧
                  CallsH Try.prog n_ref01_Number #[Value.int IntKind.u64 (Int.tmod n17 (4294967296 : Int)), Value.int IntKind.i64 (4 : Int)] h1 fun (v18 : Value) (h19 : Heap) =>
                    Ext h1 h19 ∧ ∃ (p20 : Option Addr), ∃ (l21 : Nat), ∃ (c22 : Nat), v18 = Value.slice p20 l21 c22 ∧ R (Value.tuple #[Value.slice p20 l21 c22, Value.bool true]) h19)
            (br (n2 == (4 : Int))
              (∃ (n23 : Int),
                cell h1 (Addr.add (Addr.mk b0 (0 : Nat) none) (1 : Nat)) = some (Value.int IntKind.u64 n23) ∧
                  CallsH Try.prog n_ref01_Number #[Value.int IntKind.u64 n23, Value.int IntKind.i64 (8 : Int)] h1 fun (v24 : Value) (h25 : Heap) =>
                    Ext h1 h25 ∧ ∃ (p26 : Option Addr), ∃ (l27 : Nat), ∃ (c28 : Nat), v24 = Value.slice p26 l27 c28 ∧ R (Value.tuple #[Value.slice p26 l27 c28, Value.bool true]) h25)
              (br (n2 == (5 : Int))
                (∃ (n29 : Int),
                  cell h1 (Addr.add (Addr.mk b0 (0 : Nat) none) (1 : Nat)) = some (Value.int IntKind.u64 n29) ∧
                    (2 : Int) ≠ (0 : Int) ∧
                      CallsH Try.prog n_ref01_Number #[Value.int IntKind.u64 (Int.tmod n29 (2 : Int)), Value.int IntKind.i64 (1 : Int)] h1 fun (v30 : Value) (h31 : Heap) =>
                        Ext h1 h31 ∧ ∃ (p32 : Option Addr), ∃ (l33 : Nat), ∃ (c34 : Nat), v30 = Value.slice p32 l33 c34 ∧ R (Value.tuple #[Value.slice p32 l33 c34, Value.bool true]) h31)
                (br (n2 == (6 : Int))
                  (∃ (p35 : Option Addr),
                    ∃ (l36 : Nat),
                      ∃ (c37 : Nat), cell h1 (Addr.add (Addr.mk b0 (0 : Nat) none) (2 : Nat)) = some (Value.slice p35 l36 c37) ∧ R (Value.tuple #[Value.slice p35 l36 c37, Value.bool true]) h1)
                  (br (n2 == (7 : Int))
                    (∃ (p38 : Option Addr),
                      ∃ (l39 : Nat),
                        ∃ (c40 : Nat),
                          cell h1 (Addr.add (Addr.mk b0 (0 : Nat) none) (2 : Nat)) = some (Value.slice p38 l39 c40) ∧
                            br (decide ((↑l39 : Int) > (8192 : Int))) (R (Value.tuple #[Value.slice none (0 : Nat) (0 : Nat), Value.bool false]) h1)
                              (∃ (p41 : Option Addr),
                                ∃ (l42 : Nat),
                                  ∃ (c43 : Nat),
                                    cell h1 (Addr.add (Addr.mk b0 (0 : Nat) none) (2 : Nat)) = some (Value.slice p41 l42 c43) ∧
                                      CallsH Try.prog n_ref01_Number #[Value.int IntKind.u64 (IntKind.wrap IntKind.u64 (↑l42 : Int)), Value.int IntKind.i64 (2 : Int)] h1 fun (v44 : Value) (h45 : Heap) =>
                                        Ext h1 h45 ∧
                                          ∃ (p46 : Option Addr),
                                            ∃ (l47 : Nat),
                                              ∃ (c48 : Nat),
                                                v44 = Value.slice p46 l47 c48 ∧
                                                  ∃ (p49 : Option Addr),
                                                    ∃ (l50 : Nat),
                                                      ∃ (c51 : Nat),
                                                        cell h45 (Addr.add (Addr.mk b0 (0 : Nat) none) (2 : Nat)) = some (Value.slice p49 l50 c51) ∧
                                                          appendP (5 : Nat) (1 : Nat) (1 : Nat) #[Value.int IntKind.u8 (0 : Int)] p46 l47 c48 p49 l50 h45
                                                            fun (p52 : Option Addr) (l53 c54 : Nat) (h55 : Heap) => R (Value.tuple #[Value.slice p52 l53 c54, Value.bool true]) h55))
                    (br (n2 == (8 : Int))
                      (∃ (n56 : Int),
                        cell h1 (Addr.add (Addr.mk b0 (0 : Nat) none) (1 : Nat)) = some (Value.int IntKind.u64 n56) ∧
                          ∃ (n57 : Int),
                            cell h1 (Addr.add (Addr.mk b0 (0 : Nat) none) (1 : Nat)) = some (Value.int IntKind.u64 n57) ∧
                              CallsH Try.prog n_ref01_Number #[Value.int IntKind.u64 n56, Value.int IntKind.i64 (2 : Int)] h1 fun (v58 : Value) (h59 : Heap) =>
                                Ext h1 h59 ∧
                                  ∃ (p60 : Option Addr),
                                    ∃ (l61 : Nat), ∃ (c62 : Nat), v58 = Value.slice p60 l61 c62 ∧ R (Value.tuple #[Value.slice p60 l61 c62, Value.bool (decide (n57 ≤ (4096 : Int)))]) h59)
                      (R (Value.tuple #[Value.slice none (0 : Nat) (0 : Nat), Value.bool true]) h1))))))))
theorem C_ref01_Bytes (f : Array Value) {h : Heap} {R : Value → Heap → Prop} (H : F_ref01_Bytes f h R) : CallsH Try.prog n_ref01_Bytes [(.agg f)].toArray h R :=
  fn_sound (A := A_ref01_Bytes) (Eq.mp (by kernel_rfl : F_ref01_Bytes f h R = fnVc Go.Proofs.Try.prog A_ref01_Bytes 34 [(.agg f)] h R) H)

/- rolodex/rolodexref01.Value -/
def A_ref01_Value : Ann := { qs := [9, 11, 12, 14, 15, 16, 18, 24, 25, 26, 27, 28, 30, 34, 44, 45, 47], loops := [(3, [(3, (.int .u64)), (4, (.int .i64))])] }
def F_ref01_Value (b : Option Addr) (b_l : Nat) (b_c : Nat) (h : Heap) (R : Value → Heap → Prop) : Prop :=
  ∃ (I0 : Int × Int → Heap → Prop),
  ∃ (μ1 : Int × Int → Heap → Nat),
    I0 ((0 : Int), (0 : Int)) h ∧
      ∀ (s2 : Int × Int) (h3 : Heap),
        I0 s2 h3 →
          br (decide (Prod.snd s2 < (↑b_l : Int)))
            ((0 : Int) ≤ Prod.snd s2 ∧
              Prod.snd s2 < (↑b_l : Int) ∧
                deref b fun (a4 : Addr) =>
                  ∃ (n5 : Int),
                    cell h3 (Addr.add a4 (Int.toNat (Prod.snd s2) * (1 : Nat))) = some (Value.int IntKind.u8 n5) ∧
                      I0 (IntKind.wrap IntKind.u64 (IntKind.wrap IntKind.u64 (Prod.fst s2 * (256 : Int)) + IntKind.wrap IntKind.u64 n5), IntKind.wrap IntKind.i64 (Prod.snd s2 + (1 : Int))) h3 ∧
                        μ1 (IntKind.wrap IntKind.u64 (IntKind.wrap IntKind.u64 (Prod.fst s2 * (256 : Int)) + IntKind.wrap IntKind.u64 n5), IntKind.wrap IntKind.i64 (Prod.snd s2 + (1 : Int))) h3 <
                          μ1 s2 h3)
            (R (Value.int IntKind.u64 (Prod.fst s2)) h3)
theorem C_ref01_Value (b : Option Addr) (b_l : Nat) (b_c : Nat) {h : Heap} {R : Value → Heap → Prop} (H : F_ref01_Value b b_l b_c h R) : CallsH Try.prog n_ref01_Value [(.slice b b_l b_c)].toArray h R :=
  fn_sound (A := A_ref01_Value) (Eq.mp (by kernel_rfl : F_ref01_Value b b_l b_c h R = fnVc Go.Proofs.Try.prog A_ref01_Value 44 [(.slice b b_l b_c)] h R) H)

/- rolodex/rolodexref01.Number -/
def A_ref01_Number : Ann := { qs := [9, 11, 12, 14, 15, 16, 18, 24, 25, 26, 27, 28, 30, 34, 44, 45, 47], loops := [(3, [(0, (.int .u64)), (5, .slice), (7, (.int .i64))]), (8, [(6, .slice), (8, (.int .i64))])] }
def F_ref01_Number (x : Int) (bytes : Int) (h : Heap) (R : Value → Heap → Prop) : Prop :=
  ∃ (I0 : Int × (Option Addr × Nat × Nat) × Int → Heap → Prop),
  ∃ (μ1 : Int × (Option Addr × Nat × Nat) × Int → Heap → Nat),
    I0 (x, (none, (0 : Nat), (0 : Nat)), (0 : Int)) h ∧
      ∀ (s2 : Int × (Option Addr × Nat × Nat) × Int) (h3 : Heap),
        I0 s2 h3 →
          br (decide (Prod.snd (Prod.snd s2) < bytes))
            ((256 : Int) ≠ (0 : Int) ∧
              newBlk h3 (5 : Nat) #[Value.int IntKind.u8 (IntKind.wrap IntKind.u8 (Int.tmod (Prod.fst s2) (256 : Int)))] fun (b4 : Nat) (h5 : Heap) =>
                appendP (5 : Nat) (1 : Nat) (1 : Nat) #[Value.int IntKind.u8 (0 : Int)] (Prod.fst (Prod.fst (Prod.snd s2))) (Prod.fst (Prod.snd (Prod.fst (Prod.snd s2))))
                  (Prod.snd (Prod.snd (Prod.fst (Prod.snd s2)))) (some (Addr.mk b4 (0 : Nat) none)) (1 : Nat) h5 fun (p6 : Option Addr) (l7 c8 : Nat) (h9 : Heap) =>
                  (256 : Int) ≠ (0 : Int) ∧
                    I0 (IntKind.wrap IntKind.u64 (Int.tdiv (Prod.fst s2) (256 : Int)), (p6, l7, c8), IntKind.wrap IntKind.i64 (Prod.snd (Prod.snd s2) + (1 : Int))) h9 ∧
                      μ1 (IntKind.wrap IntKind.u64 (Int.tdiv (Prod.fst s2) (256 : Int)), (p6, l7, c8), IntKind.wrap IntKind.i64 (Prod.snd (Prod.snd s2) + (1 : Int))) h9 < μ1 s2 h3)
            (∃ (I10 : (Option Addr × Nat × Nat) × Int → Heap → Prop),
              ∃ (μ11 : (Option Addr × Nat × Nat) × Int → Heap → Nat),
                I10 ((none, (0 : Nat), (0 : Nat)), IntKind.wrap IntKind.i64 (bytes - (1 : Int))) h3 ∧
                  ∀ (s12 : (Option Addr × Nat × Nat) × Int) (h13 : Heap),
                    I10 s12 h13 →
                      br (decide (Prod.snd s12 ≥ (0 : Int)))
                        ((0 : Int) ≤ Prod.snd s12 ∧
                          Prod.snd s12 < (↑(Prod.fst (Prod.snd (Prod.fst (Prod.snd s2)))) : Int) ∧
                            deref (Prod.fst (Prod.fst (Prod.snd s2))) fun (a14 : Addr) =>
                              ∃ (n15 : Int),
                                cell h13 (Addr.add a14 (Int.toNat (Prod.snd s12) * (1 : Nat))) = some (Value.int IntKind.u8 n15) ∧
                                  newBlk h13 (5 : Nat) #[Value.int IntKind.u8 n15] fun (b16 : Nat) (h17 : Heap) =>
                                    appendP (5 : Nat) (1 : Nat) (1 : Nat) #[Value.int IntKind.u8 (0 : Int)] (Prod.fst (Prod.fst s12)) (Prod.fst (Prod.snd (Prod.fst s12)))
                                      (Prod.snd (Prod.snd (Prod.fst s12))) (some (Addr.mk b16 (0 : Nat) none)) (1 : Nat) h17 fun (p18 : Option Addr) (l19 c20 : Nat) (h21 : Heap) =>
                                      I10 ((p18, l19, c20), IntKind.wrap IntKind.i64 (Prod.snd s12 - (1 : Int))) h21 ∧
                                        μ11 ((p18, l19, c20), IntKind.wrap IntKind.i64 (Prod.snd s12 - (1 : Int))) h21 < μ11 s12 h13)
                        (R (Value.slice (Prod.fst (Prod.fst s12)) (Prod.fst (Prod.snd (Prod.fst s12))) (Prod.snd (Prod.snd (Prod.fst s12)))) h13))
theorem C_ref01_Number (x : Int) (bytes : Int) {h : Heap} {R : Value → Heap → Prop} (H : F_ref01_Number x bytes h R) : CallsH Try.prog n_ref01_Number [(.int .u64 x), (.int .i64 bytes)].toArray h R :=
  fn_sound (A := A_ref01_Number) (Eq.mp (by kernel_rfl : F_ref01_Number x bytes h R = fnVc Go.Proofs.Try.prog A_ref01_Number 45 [(.int .u64 x), (.int .i64 bytes)] h R) H)

/- rolodex/rolodexlaw01.small -/
def A_law01_small : Ann := { qs := [9, 11, 12, 14, 15, 16, 18, 24, 25, 26, 27, 28, 30, 34, 44, 45, 47], loops := [(2, [(3, (.int .i64))])] }
def F_law01_small (l : Option Addr) (l_l : Nat) (l_c : Nat) (h : Heap) (R : Value → Heap → Prop) : Prop :=
  ∃ (I0 : Int → Heap → Prop),
  ∃ (μ1 : Int → Heap → Nat),
    I0 (0 : Int) h ∧
      ∀ (n2 : Int) (h3 : Heap),
        I0 n2 h3 →
          br (decide (n2 < (↑l_l : Int)))
            ((0 : Int) ≤ n2 ∧
              n2 < (↑l_l : Int) ∧
                deref l fun (a4 : Addr) =>
                  ∃ (n5 : Int),
                    cell h3 (Addr.add (Addr.add a4 (Int.toNat n2 * (3 : Nat))) (1 : Nat)) = some (Value.int IntKind.u64 n5) ∧
                      br (decide (n5 > (4611686018427387904 : Int)))
                        ((0 : Int) ≤ n2 ∧
                          n2 < (↑l_l : Int) ∧
                            deref l fun (a6 : Addr) =>
                              ∃ (n7 : Int),
                                cell h3 (Addr.add (Addr.add a6 (Int.toNat n2 * (3 : Nat))) (0 : Nat)) = some (Value.int IntKind.i64 n7) ∧
                                  br (n7 != (4 : Int)) (R (Value.bool false) h3) (I0 (IntKind.wrap IntKind.i64 (n2 + (1 : Int))) h3 ∧ μ1 (IntKind.wrap IntKind.i64 (n2 + (1 : Int))) h3 < μ1 n2 h3))
                        (I0 (IntKind.wrap IntKind.i64 (n2 + (1 : Int))) h3 ∧ μ1 (IntKind.wrap IntKind.i64 (n2 + (1 : Int))) h3 < μ1 n2 h3))
            (R (Value.bool true) h3)
theorem C_law01_small (l : Option Addr) (l_l : Nat) (l_c : Nat) {h : Heap} {R : Value → Heap → Prop} (H : F_law01_small l l_l l_c h R) : CallsH Try.prog n_law01_small [(.slice l l_l l_c)].toArray h R :=
  fn_sound (A := A_law01_small) (Eq.mp (by kernel_rfl : F_law01_small l l_l l_c h R = fnVc Go.Proofs.Try.prog A_law01_small 16 [(.slice l l_l l_c)] h R) H)

/- rolodex/rolodexlaw01.awake -/
def A_law01_awake : Ann := { qs := [9, 11, 12, 14, 15, 16, 18, 24, 25, 26, 27, 28, 30, 34, 44, 45, 47] }
def F_law01_awake (h : Heap) (R : Value → Heap → Prop) : Prop :=
  newBlk h (26 : Nat) #[Value.slice none (0 : Nat) (0 : Nat), Value.bool false] fun (b0 : Nat) (h1 : Heap) =>
  CallsH Try.prog n_wire_Writer_U16 #[Value.pointer (some (Addr.mk b0 (0 : Nat) none)), Value.int IntKind.i64 (258 : Int)] h1 fun (v2 : Value) (h3 : Heap) =>
    v2 = Value.tuple #[] ∧
      CallsH Try.prog n_wire_Writer_Flag #[Value.pointer (some (Addr.mk b0 (0 : Nat) none)), Value.bool true] h3 fun (v4 : Value) (h5 : Heap) =>
        v4 = Value.tuple #[] ∧
          CallsH Try.prog n_wire_Writer_Out #[Value.pointer (some (Addr.mk b0 (0 : Nat) none))] h5 fun (v6 : Value) (h7 : Heap) =>
            Ext h5 h7 ∧
              ∃ (p8 : Option Addr),
                ∃ (l9 : Nat),
                  ∃ (c10 : Nat),
                    ∃ (n11 : Int),
                      v6 = Value.tuple #[Value.slice p8 l9 c10, Value.int IntKind.i64 n11] ∧
                        br (n11 == (0 : Int))
                          (br ((↑l9 : Int) == (3 : Int))
                            ((0 : Int) ≤ (1 : Int) ∧
                              (1 : Int) < (↑l9 : Int) ∧
                                deref p8 fun (a12 : Addr) => ∃ (n13 : Int), cell h7 (Addr.add a12 (1 : Nat)) = some (Value.int IntKind.u8 n13) ∧ R (Value.bool (n13 == (2 : Int))) h7)
                            (R (Value.bool false) h7))
                          (R (Value.bool false) h7)
theorem C_law01_awake {h : Heap} {R : Value → Heap → Prop} (H : F_law01_awake h R) : CallsH Try.prog n_law01_awake [].toArray h R :=
  fn_sound (A := A_law01_awake) (Eq.mp (by kernel_rfl : F_law01_awake h R = fnVc Go.Proofs.Try.prog A_law01_awake 9 [] h R) H)

/- rolodex/rolodexlaw01.put -/
def A_law01_put : Ann := { qs := [9, 11, 12, 14, 15, 16, 18, 24, 25, 26, 27, 28, 30, 34, 44, 45, 47] }
def F_law01_put (w : Option Addr) (f : Array Value) (h : Heap) (R : Value → Heap → Prop) : Prop :=
  newBlk h (42 : Nat) f fun (b0 : Nat) (h1 : Heap) =>
  ∃ (n2 : Int),
    cell h1 (Addr.add (Addr.mk b0 (0 : Nat) none) (0 : Nat)) = some (Value.int IntKind.i64 n2) ∧
      br (n2 == (1 : Int))
        (∃ (n3 : Int),
          cell h1 (Addr.add (Addr.mk b0 (0 : Nat) none) (1 : Nat)) = some (Value.int IntKind.u64 n3) ∧
            CallsH Try.prog n_wire_Writer_U8 #[Value.pointer w, Value.int IntKind.i64 (IntKind.wrap IntKind.i64 n3)] h1 fun (v4 : Value) (h5 : Heap) => v4 = Value.tuple #[] ∧ R (Value.tuple #[]) h5)
        (br (n2 == (2 : Int))
          (∃ (n6 : Int),
            cell h1 (Addr.add (Addr.mk b0 (0 : Nat) none) (1 : Nat)) = some (Value.int IntKind.u64 n6) ∧
              CallsH Try.prog n_wire_Writer_U16 #[Value.pointer w, Value.int IntKind.i64 (IntKind.wrap IntKind.i64 n6)] h1 fun (v7 : Value) (h8 : Heap) => v7 = Value.tuple #[] ∧ R (Value.tuple #[]) h8)
          (br (n2 == (3 : Int))
            (∃ (n9 : Int),
              cell h1 (Addr.add (Addr.mk b0 (0 : Nat) none) (1 : Nat)) = some (Value.int IntKind.u64 n9) ∧
                CallsH Try.prog n_wire_Writer_U32 #[Value.pointer w, Value.int IntKind.u32 (IntKind.wrap IntKind.u32 n9)] h1 fun (v10 : Value) (h11 : Heap) => v10 = Value.tuple #[] ∧ R (Value.tuple #[]) h11)
            (br (n2 == (4 : Int))
              (∃ (n12 : Int),
                cell h1 (Addr.add (Addr.mk b0 (0 : Nat) none) (1 : Nat)) = some (Value.int IntKind.u64 n12) ∧
                  CallsH Try.prog n_wire_Writer_U64 #[Value.pointer w, Value.int IntKind.u64 n12] h1 fun (v13 : Value) (h14 : Heap) => v13 = Value.tuple #[] ∧ R (Value.tuple #[]) h14)
              (br (n2 == (5 : Int))
                (∃ (n15 : Int),
                  cell h1 (Addr.add (Addr.mk b0 (0 : Nat) none) (1 : Nat)) = some (Value.int IntKind.u64 n15) ∧
                    (2 : Int) ≠ (0 : Int) ∧
                      CallsH Try.prog n_wire_Writer_Flag #[Value.pointer w, Value.bool (Int.tmod n15 (2 : Int) == (1 : Int))] h1 fun (v16 : Value) (h17 : Heap) =>
                        v16 = Value.tuple #[] ∧ R (Value.tuple #[]) h17)
                (br (n2 == (6 : Int))
                  (∃ (p18 : Option Addr),
                    ∃ (l19 : Nat),
                      ∃ (c20 : Nat),
                        cell h1 (Addr.add (Addr.mk b0 (0 : Nat) none) (2 : Nat)) = some (Value.slice p18 l19 c20) ∧
                          CallsH Try.prog n_wire_Writer_Plain #[Value.pointer w, Value.slice p18 l19 c20] h1 fun (v21 : Value) (h22 : Heap) => v21 = Value.tuple #[] ∧ R (Value.tuple #[]) h22)
                  (br (n2 == (7 : Int))
                    (∃ (p23 : Option Addr),
                      ∃ (l24 : Nat),
                        ∃ (c25 : Nat),
                          cell h1 (Addr.add (Addr.mk b0 (0 : Nat) none) (2 : Nat)) = some (Value.slice p23 l24 c25) ∧
                            CallsH Try.prog n_wire_Writer_String #[Value.pointer w, Value.slice p23 l24 c25] h1 fun (v26 : Value) (h27 : Heap) => v26 = Value.tuple #[] ∧ R (Value.tuple #[]) h27)
                    (br (n2 == (8 : Int))
                      (∃ (n28 : Int),
                        cell h1 (Addr.add (Addr.mk b0 (0 : Nat) none) (1 : Nat)) = some (Value.int IntKind.u64 n28) ∧
                          CallsH Try.prog n_wire_Writer_Count #[Value.pointer w, Value.int IntKind.i64 (IntKind.wrap IntKind.i64 n28)] h1 fun (v29 : Value) (h30 : Heap) =>
                            v29 = Value.tuple #[] ∧ R (Value.tuple #[]) h30)
                      (R (Value.tuple #[]) h1))))))))
theorem C_law01_put (w : Option Addr) (f : Array Value) {h : Heap} {R : Value → Heap → Prop} (H : F_law01_put w f h R) : CallsH Try.prog n_law01_put [(.pointer w), (.agg f)].toArray h R :=
  fn_sound (A := A_law01_put) (Eq.mp (by kernel_rfl : F_law01_put w f h R = fnVc Go.Proofs.Try.prog A_law01_put 17 [(.pointer w), (.agg f)] h R) H)

/- rolodex/rolodexlaw01.take -/
def A_law01_take : Ann := { qs := [9, 11, 12, 14, 15, 16, 18, 24, 25, 26, 27, 28, 30, 34, 44, 45, 47] }
def F_law01_take (r : Option Addr) (kind : Int) (most : Int) (h : Heap) (R : Value → Heap → Prop) : Prop :=
  newBlk h (42 : Nat) #[Value.int IntKind.i64 (0 : Int), Value.int IntKind.u64 (0 : Int), Value.slice none (0 : Nat) (0 : Nat)] fun (b0 : Nat) (h1 : Heap) =>
  newBlk h1 (42 : Nat) #[Value.int IntKind.i64 (0 : Int), Value.int IntKind.u64 (0 : Int), Value.slice none (0 : Nat) (0 : Nat)] fun (b2 : Nat) (h3 : Heap) =>
    storeP (some (3 : Nat)) h3 (Addr.mk b2 (0 : Nat) none) (Value.agg #[Value.int IntKind.i64 kind, Value.int IntKind.u64 (0 : Int), Value.slice none (0 : Nat) (0 : Nat)]) fun (h4 : Heap) =>
      br (kind == (1 : Int))
        (CallsH Try.prog n_wire_Reader_U8 #[Value.pointer r] h4 fun (v5 : Value) (h6 : Heap) =>
          ∃ (n7 : Int),
            v5 = Value.int IntKind.i64 n7 ∧
              storeP none h6 (Addr.mk (Addr.block (Addr.mk b2 (0 : Nat) none)) (Addr.off (Addr.mk b2 (0 : Nat) none) + (1 : Nat)) none) (Value.int IntKind.u64 (IntKind.wrap IntKind.u64 n7))
                fun (h8 : Heap) =>
                ∃ (cs9 : Array Value),
                  row h8 (Addr.mk b2 (0 : Nat) none) (3 : Nat) = some cs9 ∧
                    storeP (some (3 : Nat)) h8 (Addr.mk b0 (0 : Nat) none) (Value.agg cs9) fun (h10 : Heap) =>
                      ∃ (cs11 : Array Value), row h10 (Addr.mk b0 (0 : Nat) none) (3 : Nat) = some cs11 ∧ R (Value.agg cs11) h10)
        (br (kind == (2 : Int))
          (CallsH Try.prog n_wire_Reader_U16 #[Value.pointer r] h4 fun (v12 : Value) (h13 : Heap) =>
            ∃ (n14 : Int),
              v12 = Value.int IntKind.i64 n14 ∧
                storeP none h13 (Addr.mk (Addr.block (Addr.mk b2 (0 : Nat) none)) (Addr.off (Addr.mk b2 (0 : Nat) none) + (1 : Nat)) none) (Value.int IntKind.u64 (IntKind.wrap IntKind.u64 n14))
                  fun (h15 : Heap) =>
                  ∃ (cs16 : Array Value),
                    row h15 (Addr.mk b2 (0 : Nat) none) (3 : Nat) = some cs16 ∧
                      storeP (some (3 : Nat)) h15 (Addr.mk b0 (0 : Nat) none) (Value.agg cs16) fun (h17 : Heap) =>
                        ∃ (cs18 : Array Value), row h17 (Addr.mk b0 (0 : Nat) none) (3 : Nat) = some cs18 ∧ R (Value.agg cs18) h17)
          (br (kind == (3 : Int))
            (CallsH Try.prog n_wire_Reader_U32 #[Value.pointer r] h4 fun (v19 : Value) (h20 : Heap) =>
              ∃ (n21 : Int),
                v19 = Value.int IntKind.u32 n21 ∧
                  storeP none h20 (Addr.mk (Addr.block (Addr.mk b2 (0 : Nat) none)) (Addr.off (Addr.mk b2 (0 : Nat) none) + (1 : Nat)) none) (Value.int IntKind.u64 (IntKind.wrap IntKind.u64 n21))
                    fun (h22 : Heap) =>
                    ∃ (cs23 : Array Value),
                      row h22 (Addr.mk b2 (0 : Nat) none) (3 : Nat) = some cs23 ∧
                        storeP (some (3 : Nat)) h22 (Addr.mk b0 (0 : Nat) none) (Value.agg cs23) fun (h24 : Heap) =>
                          ∃ (cs25 : Array Value), row h24 (Addr.mk b0 (0 : Nat) none) (3 : Nat) = some cs25 ∧ R (Value.agg cs25) h24)
            (br (kind == (4 : Int))
              (CallsH Try.prog n_wire_Reader_U64 #[Value.pointer r] h4 fun (v26 : Value) (h27 : Heap) =>
                ∃ (n28 : Int),
                  v26 = Value.int IntKind.u64 n28 ∧
                    storeP none h27 (Addr.mk (Addr.block (Addr.mk b2 (0 : Nat) none)) (Addr.off (Addr.mk b2 (0 : Nat) none) + (1 : Nat)) none) (Value.int IntKind.u64 n28) fun (h29 : Heap) =>
                      ∃ (cs30 : Array Value),
                        row h29 (Addr.mk b2 (0 : Nat) none) (3 : Nat) = some cs30 ∧
                          storeP (some (3 : Nat)) h29 (Addr.mk b0 (0 : Nat) none) (Value.agg cs30) fun (h31 : Heap) =>
                            ∃ (cs32 : Array Value), row h31 (Addr.mk b0 (0 : Nat) none) (3 : Nat) = some cs32 ∧ R (Value.agg cs32) h31)
              (br (kind == (5 : Int))
                (CallsH Try.prog n_wire_Reader_Flag #[Value.pointer r] h4 fun (v33 : Value) (h34 : Heap) =>
                  ∃ (t35 : Bool),
                    v33 = Value.bool t35 ∧
                      br t35
                        (storeP none h34 (Addr.mk (Addr.block (Addr.mk b2 (0 : Nat) none)) (Addr.off (Addr.mk b2 (0 : Nat) none) + (1 : Nat)) none) (Value.int IntKind.u64 (1 : Int))
                          fun (h36 : Heap) =>
                          ∃ (cs37 : Array Value),
                            row h36 (Addr.mk b2 (0 : Nat) none) (3 : Nat) = some cs37 ∧
                              storeP (some (3 : Nat)) h36 (Addr.mk b0 (0 : Nat) none) (Value.agg cs37) fun (h38 : Heap) =>
                                ∃ (cs39 : Array Value), row h38 (Addr.mk b0 (0 : Nat) none) (3 : Nat) = some cs39 ∧ R (Value.agg cs39) h38)
                        (∃ (cs40 : Array Value),
                          row h34 (Addr.mk b2 (0 : Nat) none) (3 : Nat) = some cs40 ∧
                            storeP (some (3 : Nat)) h34 (Addr.mk b0 (0 : Nat) none) (Value.agg cs40) fun (h41 : Heap) =>
                              ∃ (cs42 : Array Value), row h41 (Addr.mk b0 (0 : Nat) none) (3 : Nat) = some cs42 ∧ R (Value.agg cs42) h41))
                (br (kind == (6 : Int))
                  (CallsH Try.prog n_wire_Reader_Plain #[Value.pointer r, Value.int IntKind.i64 (IntKind.wrap IntKind.i64 most)] h4 fun (v43 : Value) (h44 : Heap) =>
                    ∃ (p45 : Option Addr),
                      ∃ (l46 : Nat),
                        ∃ (c47 : Nat),
                          v43 = Value.slice p45 l46 c47 ∧
                            storeP none h44 (Addr.mk (Addr.block (Addr.mk b2 (0 : Nat) none)) (Addr.off (Addr.mk b2 (0 : Nat) none) + (2 : Nat)) none) (Value.slice p45 l46 c47) fun (h48 : Heap) =>
                              ∃ (cs49 : Array Value),
                                row h48 (Addr.mk b2 (0 : Nat) none) (3 : Nat) = some cs49 ∧
                                  storeP (some (3 : Nat)) h48 (Addr.mk b0 (0 : Nat) none) (Value.agg cs49) fun (h50 : Heap) =>
                                    ∃ (cs51 : Array Value), row h50 (Addr.mk b0 (0 : Nat) none) (3 : Nat) = some cs51 ∧ R (Value.agg cs51) h50)
                  (br (kind == (7 : Int))
                    (CallsH Try.prog n_wire_Reader_String #[Value.pointer r, Value.int IntKind.i64 (IntKind.wrap IntKind.i64 most)] h4 fun (v52 : Value) (h53 : Heap) =>
                      ∃ (p54 : Option Addr),
                        ∃ (l55 : Nat),
                          ∃ (c56 : Nat),
                            v52 = Value.slice p54 l55 c56 ∧
                              storeP none h53 (Addr.mk (Addr.block (Addr.mk b2 (0 : Nat) none)) (Addr.off (Addr.mk b2 (0 : Nat) none) + (2 : Nat)) none) (Value.slice p54 l55 c56) fun (h57 : Heap) =>
                                ∃ (cs58 : Array Value),
                                  row h57 (Addr.mk b2 (0 : Nat) none) (3 : Nat) = some cs58 ∧
                                    storeP (some (3 : Nat)) h57 (Addr.mk b0 (0 : Nat) none) (Value.agg cs58) fun (h59 : Heap) =>
                                      ∃ (cs60 : Array Value), row h59 (Addr.mk b0 (0 : Nat) none) (3 : Nat) = some cs60 ∧ R (Value.agg cs60) h59)
                    (br (kind == (8 : Int))
                      (CallsH Try.prog n_wire_Reader_Count #[Value.pointer r, Value.int IntKind.i64 (IntKind.wrap IntKind.i64 most)] h4 fun (v61 : Value) (h62 : Heap) =>
                        ∃ (n63 : Int),
                          v61 = Value.int IntKind.i64 n63 ∧
                            storeP none h62 (Addr.mk (Addr.block (Addr.mk b2 (0 : Nat) none)) (Addr.off (Addr.mk b2 (0 : Nat) none) + (1 : Nat)) none)
                              (Value.int IntKind.u64 (IntKind.wrap IntKind.u64 n63)) fun (h64 : Heap) =>
                              ∃ (cs65 : Array Value),
                                row h64 (Addr.mk b2 (0 : Nat) none) (3 : Nat) = some cs65 ∧
                                  storeP (some (3 : Nat)) h64 (Addr.mk b0 (0 : Nat) none) (Value.agg cs65) fun (h66 : Heap) =>
                                    ∃ (cs67 : Array Value), row h66 (Addr.mk b0 (0 : Nat) none) (3 : Nat) = some cs67 ∧ R (Value.agg cs67) h66)
                      (∃ (cs68 : Array Value),
                        row h4 (Addr.mk b2 (0 : Nat) none) (3 : Nat) = some cs68 ∧
                          storeP (some (3 : Nat)) h4 (Addr.mk b0 (0 : Nat) none) (Value.agg cs68) fun (h69 : Heap) =>
                            ∃ (cs70 : Array Value), row h69 (Addr.mk b0 (0 : Nat) none) (3 : Nat) = some cs70 ∧ R (Value.agg cs70) h69))))))))
theorem C_law01_take (r : Option Addr) (kind : Int) (most : Int) {h : Heap} {R : Value → Heap → Prop} (H : F_law01_take r kind most h R) : CallsH Try.prog n_law01_take [(.pointer r), (.int .i64 kind), (.int .u64 most)].toArray h R :=
  fn_sound (A := A_law01_take) (Eq.mp (by kernel_rfl : F_law01_take r kind most h R = fnVc Go.Proofs.Try.prog A_law01_take 23 [(.pointer r), (.int .i64 kind), (.int .u64 most)] h R) H)

/- rolodex/rolodexlaw01.WireOwn -/
def A_law01_WireOwn : Ann := { qs := [9, 11, 12, 14, 15, 16, 18, 24, 25, 26, 27, 28, 30, 34, 44, 45, 47], loops := [(9, [(7, (.int .i64))]), (16, [(12, (.int .i64))])] }
def F_law01_WireOwn (b : Option Addr) (b_l : Nat) (b_c : Nat) (h : Heap) (R : Value → Heap → Prop) : Prop :=
  CallsH Try.prog n_law01_awake #[] h fun (v0 : Value) (h1 : Heap) =>
  Ext h h1 ∧
    ∃ (t2 : Bool),
      v0 = Value.bool t2 ∧
        br (!t2) (CallsH Try.prog n_law01_awake #[] h1 fun (v3 : Value) (h4 : Heap) => Ext h1 h4 ∧ ∃ (t5 : Bool), v3 = Value.bool t5 ∧ R (Value.bool t5) h4)
          (br (decide ((↑b_l : Int) > (300 : Int))) (CallsH Try.prog n_law01_awake #[] h1 fun (v6 : Value) (h7 : Heap) => Ext h1 h7 ∧ ∃ (t8 : Bool), v6 = Value.bool t8 ∧ R (Value.bool t8) h7)
            (appendP (5 : Nat) (1 : Nat) (1 : Nat) #[Value.int IntKind.u8 (0 : Int)] none (0 : Nat) (0 : Nat) b b_l h1 fun (p9 : Option Addr) (l10 c11 : Nat) (h12 : Heap) =>
              newBlk h12 (26 : Nat) #[Value.slice none (0 : Nat) (0 : Nat), Value.bool false] fun (b13 : Nat) (h14 : Heap) =>
                CallsH Try.prog n_wire_Writer_Plain #[Value.pointer (some (Addr.mk b13 (0 : Nat) none)), Value.slice b b_l b_c] h14 fun (v15 : Value) (h16 : Heap) =>
                  v15 = Value.tuple #[] ∧
                    CallsH Try.prog n_wire_Writer_Out #[Value.pointer (some (Addr.mk b13 (0 : Nat) none))] h16 fun (v17 : Value) (h18 : Heap) =>
                      Ext h16 h18 ∧
                        ∃ (p19 : Option Addr),
                          ∃ (l20 : Nat),
                            ∃ (c21 : Nat),
                              ∃ (n22 : Int),
                                v17 = Value.tuple #[Value.slice p19 l20 c21, Value.int IntKind.i64 n22] ∧
                                  ∃ (I23 : Int → Heap → Prop),
                                    ∃ (μ24 : Int → Heap → Nat),
                                      I23 (0 : Int) h18 ∧
                                        ∀ (n25 : Int) (h26 : Heap),
                                          I23 n25 h26 →
                                            br (decide (n25 < (↑l20 : Int)))
                                              ((0 : Int) ≤ n25 ∧
                                                n25 < (↑l20 : Int) ∧
                                                  deref p19 fun (a27 : Addr) =>
                                                    ∃ (n28 : Int),
                                                      cell h26 (Addr.add a27 (Int.toNat n25 * (1 : Nat))) = some (Value.int IntKind.u8 n28) ∧
                                                        (0 : Int) ≤ n25 ∧
                                                          n25 < (↑l20 : Int) ∧
                                                            deref p19 fun (a29 : Addr) =>
                                                              storeP none h26 (Addr.add a29 (Int.toNat n25 * (1 : Nat))) (Value.int IntKind.u8 (IntKind.wrap IntKind.u8 (n28 + (1 : Int))))
                                                                fun (h30 : Heap) =>
                                                                I23 (IntKind.wrap IntKind.i64 (n25 + (1 : Int))) h30 ∧ μ24 (IntKind.wrap IntKind.i64 (n25 + (1 : Int))) h30 < μ24 n25 h26)
                                              (CallsH Try.prog n_wire_Writer_Out #[Value.pointer (some (Addr.mk b13 (0 : Nat) none))] h26 fun (v31 : Value) (h32 : Heap) =>
                                                Ext h26 h32 ∧
                                                  ∃ (p33 : Option Addr),
                                                    ∃ (l34 : Nat),
                                                      ∃ (c35 : Nat),
                                                        ∃ (n36 : Int),
                                                          v31 = Value.tuple #[Value.slice p33 l34 c35, Value.int IntKind.i64 n36] ∧
                                                            CallsH Try.prog n_wire_New #[Value.slice b b_l b_c] h32 fun (v37 : Value) (h38 : Heap) =>
                                                              Ext h32 h38 ∧
                                                                ∃ (p39 : Option Addr),
                                                                  v37 = Value.pointer p39 ∧
                                                                    CallsH Try.prog n_wire_Reader_Plain #[Value.pointer p39, Value.int IntKind.i64 (↑b_l : Int)] h38 fun (v40 : Value) (h41 : Heap) =>
                                                                      ∃ (p42 : Option Addr),
                                                                        ∃ (l43 : Nat),
                                                                          ∃ (c44 : Nat),
                                                                            v40 = Value.slice p42 l43 c44 ∧
                                                                              ∃ (I45 : Int → Heap → Prop),
                                                                                ∃ (μ46 : Int → Heap → Nat),
                                                                                  I45 (0 : Int) h41 ∧
                                                                                    ∀ (n47 : Int) (h48 : Heap),
                                                                                      I45 n47 h48 →
                                                                                        br (decide (n47 < (↑l43 : Int)))
                                                                                          ((0 : Int) ≤ n47 ∧
                                                                                            n47 < (↑l43 : Int) ∧
                                                                                              deref p42 fun (a49 : Addr) =>
                                                                                                ∃ (n50 : Int),
                                                                                                  cell h48 (Addr.add a49 (Int.toNat n47 * (1 : Nat))) = some (Value.int IntKind.u8 n50) ∧
                                                                                                    (0 : Int) ≤ n47 ∧
                                                                                                      n47 < (↑l43 : Int) ∧
                                                                                                        deref p42 fun (a51 : Addr) =>
                                                                                                          storeP none h48 (Addr.add a51 (Int.toNat n47 * (1 : Nat)))
                                                                                                            (Value.int IntKind.u8 (IntKind.wrap IntKind.u8 (n50 + (1 : Int)))) fun (h52 : Heap) =>
                                                                                                            I45 (IntKind.wrap IntKind.i64 (n47 + (1 : Int))) h52 ∧
                                                                                                              μ46 (IntKind.wrap IntKind.i64 (n47 + (1 : Int))) h52 < μ46 n47 h48)
                                                                                          (CallsH Try.prog n_ref01_Same #[Value.slice p33 l34 c35, Value.slice p9 l10 c11] h48
                                                                                            fun (v53 : Value) (h54 : Heap) =>
                                                                                            Ext h48 h54 ∧
                                                                                              ∃ (t55 : Bool),
                                                                                                v53 = Value.bool t55 ∧
                                                                                                  br t55
                                                                                                    (CallsH Try.prog n_ref01_Same #[Value.slice b b_l b_c, Value.slice p9 l10 c11] h54
                                                                                                      fun (v56 : Value) (h57 : Heap) =>
                                                                                                      Ext h54 h57 ∧ ∃ (t58 : Bool), v56 = Value.bool t58 ∧ R (Value.bool t58) h57)
                                                                                                    (R (Value.bool false) h54)))))
theorem C_law01_WireOwn (b : Option Addr) (b_l : Nat) (b_c : Nat) {h : Heap} {R : Value → Heap → Prop} (H : F_law01_WireOwn b b_l b_c h R) : CallsH Try.prog n_law01_WireOwn [(.slice b b_l b_c)].toArray h R :=
  fn_sound (A := A_law01_WireOwn) (Eq.mp (by kernel_rfl : F_law01_WireOwn b b_l b_c h R = fnVc Go.Proofs.Try.prog A_law01_WireOwn 3 [(.slice b b_l b_c)] h R) H)

/- rolodex/rolodexlaw01.WireWrites -/
def A_law01_WireWrites : Ann := { qs := [9, 11, 12, 14, 15, 16, 18, 24, 25, 26, 27, 28, 30, 34, 44, 45, 47], loops := [(5, [(4, (.int .i64))])] }
def F_law01_WireWrites (l : Option Addr) (l_l : Nat) (l_c : Nat) (h : Heap) (R : Value → Heap → Prop) : Prop :=
  CallsH Try.prog n_law01_awake #[] h fun (v0 : Value) (h1 : Heap) =>
  Ext h h1 ∧
    ∃ (t2 : Bool),
      v0 = Value.bool t2 ∧
        br (!t2) (CallsH Try.prog n_law01_awake #[] h1 fun (v3 : Value) (h4 : Heap) => Ext h1 h4 ∧ ∃ (t5 : Bool), v3 = Value.bool t5 ∧ R (Value.bool t5) h4)
          (CallsH Try.prog n_ref01_Few #[Value.slice l l_l l_c, Value.int IntKind.i64 (60 : Int)] h1 fun (v6 : Value) (h7 : Heap) =>
            Ext h1 h7 ∧
              ∃ (t8 : Bool),
                v6 = Value.bool t8 ∧
                  br (!t8) (CallsH Try.prog n_law01_awake #[] h7 fun (v9 : Value) (h10 : Heap) => Ext h7 h10 ∧ ∃ (t11 : Bool), v9 = Value.bool t11 ∧ R (Value.bool t11) h10)
                    (CallsH Try.prog n_law01_small #[Value.slice l l_l l_c] h7 fun (v12 : Value) (h13 : Heap) =>
                      Ext h7 h13 ∧
                        ∃ (t14 : Bool),
                          v12 = Value.bool t14 ∧
                            br (!t14) (CallsH Try.prog n_law01_awake #[] h13 fun (v15 : Value) (h16 : Heap) => Ext h13 h16 ∧ ∃ (t17 : Bool), v15 = Value.bool t17 ∧ R (Value.bool t17) h16)
                              (newBlk h13 (26 : Nat) #[Value.slice none (0 : Nat) (0 : Nat), Value.bool false] fun (b18 : Nat) (h19 : Heap) =>
                                ∃ (I20 : Int → Heap → Prop),
                                  ∃ (μ21 : Int → Heap → Nat),
                                    I20 (0 : Int) h19 ∧
                                      ∀ (n22 : Int) (h23 : Heap),
                                        I20 n22 h23 →
                                          br (decide (n22 < (↑l_l : Int)))
                                            ((0 : Int) ≤ n22 ∧
                                              n22 < (↑l_l : Int) ∧
                                                deref l fun (a24 : Addr) =>
                                                  ∃ (cs25 : Array Value),
                                                    row h23 (Addr.add a24 (Int.toNat n22 * (3 : Nat))) (3 : Nat) = some cs25 ∧
                                                      CallsH Try.prog n_law01_put #[Value.pointer (some (Addr.mk b18 (0 : Nat) none)), Value.agg cs25] h23 fun (v26 : Value) (h27 : Heap) =>
                                                        v26 = Value.tuple #[] ∧
                                                          I20 (IntKind.wrap IntKind.i64 (n22 + (1 : Int))) h27 ∧ μ21 (IntKind.wrap IntKind.i64 (n22 + (1 : Int))) h27 < μ21 n22 h23)
                                            (CallsH Try.prog n_wire_Writer_Out #[Value.pointer (some (Addr.mk b18 (0 : Nat) none))] h23 fun (v28 : Value) (h29 : Heap) =>
                                              Ext h23 h29 ∧
                                                ∃ (p30 : Option Addr),
                                                  ∃ (l31 : Nat),
                                                    ∃ (c32 : Nat),
                                                      ∃ (n33 : Int),
                                                        v28 = Value.tuple #[Value.slice p30 l31 c32, Value.int IntKind.i64 n33] ∧
                                                          CallsH Try.prog n_ref01_All #[Value.slice l l_l l_c] h29 fun (v34 : Value) (h35 : Heap) =>
                                                            Ext h29 h35 ∧
                                                              ∃ (p36 : Option Addr),
                                                                ∃ (l37 : Nat),
                                                                  ∃ (c38 : Nat),
                                                                    ∃ (t39 : Bool),
                                                                      v34 = Value.tuple #[Value.slice p36 l37 c38, Value.bool t39] ∧
                                                                        br ((n33 == (0 : Int)) == t39)
                                                                          (br (n33 == (0 : Int))
                                                                            (CallsH Try.prog n_ref01_Same #[Value.slice p30 l31 c32, Value.slice p36 l37 c38] h35 fun (v40 : Value) (h41 : Heap) =>
                                                                              Ext h35 h41 ∧ ∃ (t42 : Bool), v40 = Value.bool t42 ∧ R (Value.bool t42) h41)
                                                                            (br (n33 == (4 : Int))
                                                                              (CallsH Try.prog n_ref01_Same #[Value.slice p30 l31 c32, Value.slice p36 l37 c38] h35 fun (v43 : Value) (h44 : Heap) =>
                                                                                Ext h35 h44 ∧ ∃ (t45 : Bool), v43 = Value.bool t45 ∧ R (Value.bool t45) h44)
                                                                              (R (Value.bool false) h35)))
                                                                          (R (Value.bool false) h35)))))
theorem C_law01_WireWrites (l : Option Addr) (l_l : Nat) (l_c : Nat) {h : Heap} {R : Value → Heap → Prop} (H : F_law01_WireWrites l l_l l_c h R) : CallsH Try.prog n_law01_WireWrites [(.slice l l_l l_c)].toArray h R :=
  fn_sound (A := A_law01_WireWrites) (Eq.mp (by kernel_rfl : F_law01_WireWrites l l_l l_c h R = fnVc Go.Proofs.Try.prog A_law01_WireWrites 4 [(.slice l l_l l_c)] h R) H)

/- rolodex/rolodexlaw01.WireSpoiled -/
def A_law01_WireSpoiled : Ann := { qs := [9, 11, 12, 14, 15, 16, 18, 24, 25, 26, 27, 28, 30, 34, 44, 45, 47], loops := [(5, [(8, (.int .i64))]), (18, [(9, (.int .i64))])], cuts := [(3, []), (17, [])] }
def F_law01_WireSpoiled (ahead : Option Addr) (ahead_l : Nat) (ahead_c : Nat) (behind : Option Addr) (behind_l : Nat) (behind_c : Nat) (x : Int) (h : Heap) (R : Value → Heap → Prop) : Prop :=
  ∃ (J0 : PUnit → Heap → Prop),
  (CallsH Try.prog n_law01_awake #[] h fun (v1 : Value) (h2 : Heap) =>
      Ext h h2 ∧
        ∃ (t3 : Bool),
          v1 = Value.bool t3 ∧
            br (!t3) (CallsH Try.prog n_law01_awake #[] h2 fun (v4 : Value) (h5 : Heap) => Ext h2 h5 ∧ ∃ (t6 : Bool), v4 = Value.bool t6 ∧ R (Value.bool t6) h5)
              (CallsH Try.prog n_ref01_Few #[Value.slice ahead ahead_l ahead_c, Value.int IntKind.i64 (60 : Int)] h2 fun (v7 : Value) (h8 : Heap) =>
                Ext h2 h8 ∧
                  ∃ (t9 : Bool),
                    v7 = Value.bool t9 ∧
                      br (!t9) (CallsH Try.prog n_law01_awake #[] h8 fun (v10 : Value) (h11 : Heap) => Ext h8 h11 ∧ ∃ (t12 : Bool), v10 = Value.bool t12 ∧ R (Value.bool t12) h11)
                        (CallsH Try.prog n_ref01_Few #[Value.slice behind behind_l behind_c, Value.int IntKind.i64 (60 : Int)] h8 fun (v13 : Value) (h14 : Heap) =>
                          Ext h8 h14 ∧
                            ∃ (t15 : Bool),
                              v13 = Value.bool t15 ∧
                                br (!t15) (CallsH Try.prog n_law01_awake #[] h14 fun (v16 : Value) (h17 : Heap) => Ext h14 h17 ∧ ∃ (t18 : Bool), v16 = Value.bool t18 ∧ R (Value.bool t18) h17)
                                  (J0 () h14)))) ∧
    ∀ (x19 : PUnit) (h20 : Heap),
      J0 x19 h20 →
        newBlk h20 (26 : Nat) #[Value.slice none (0 : Nat) (0 : Nat), Value.bool false] fun (b21 : Nat) (h22 : Heap) =>
          ∃ (I23 : Int → Heap → Prop),
            ∃ (μ24 : Int → Heap → Nat),
              I23 (0 : Int) h22 ∧
                ∀ (n25 : Int) (h26 : Heap),
                  I23 n25 h26 →
                    br (decide (n25 < (↑ahead_l : Int)))
                      ((0 : Int) ≤ n25 ∧
                        n25 < (↑ahead_l : Int) ∧
                          deref ahead fun (a27 : Addr) =>
                            ∃ (cs28 : Array Value),
                              row h26 (Addr.add a27 (Int.toNat n25 * (3 : Nat))) (3 : Nat) = some cs28 ∧
                                CallsH Try.prog n_law01_put #[Value.pointer (some (Addr.mk b21 (0 : Nat) none)), Value.agg cs28] h26 fun (v29 : Value) (h30 : Heap) =>
                                  v29 = Value.tuple #[] ∧ I23 (IntKind.wrap IntKind.i64 (n25 + (1 : Int))) h30 ∧ μ24 (IntKind.wrap IntKind.i64 (n25 + (1 : Int))) h30 < μ24 n25 h26)
                      (∃ (J31 : PUnit → Heap → Prop),
                        ((4 : Int) ≠ (0 : Int) ∧
                            br (Int.tmod x (4 : Int) == (0 : Int))
                              ((4 : Int) ≠ (0 : Int) ∧
                                CallsH Try.prog n_wire_Writer_U8
                                  #[Value.pointer (some (Addr.mk b21 (0 : Nat) none)),
                                    Value.int IntKind.i64 (IntKind.wrap IntKind.i64 ((256 : Int) + IntKind.wrap IntKind.i64 (IntKind.wrap IntKind.u32 (Int.tdiv x (4 : Int)))))]
                                  h26 fun (v32 : Value) (h33 : Heap) => v32 = Value.tuple #[] ∧ J31 () h33)
                              (br (Int.tmod x (4 : Int) == (1 : Int))
                                ((4 : Int) ≠ (0 : Int) ∧
                                  CallsH Try.prog n_wire_Writer_U16
                                    #[Value.pointer (some (Addr.mk b21 (0 : Nat) none)),
                                      Value.int IntKind.i64 (IntKind.wrap IntKind.i64 ((-1 : Int) - IntKind.wrap IntKind.i64 (IntKind.wrap IntKind.u32 (Int.tdiv x (4 : Int)))))]
                                    h26 fun (v34 : Value) (h35 : Heap) => v34 = Value.tuple #[] ∧ J31 () h35)
                                (br (Int.tmod x (4 : Int) == (2 : Int))
                                  ((4 : Int) ≠ (0 : Int) ∧
                                    CallsH Try.prog n_wire_Writer_Count
                                      #[Value.pointer (some (Addr.mk b21 (0 : Nat) none)),
                                        Value.int IntKind.i64 (IntKind.wrap IntKind.i64 ((4097 : Int) + IntKind.wrap IntKind.i64 (IntKind.wrap IntKind.u32 (Int.tdiv x (4 : Int)))))]
                                      h26 fun (v36 : Value) (h37 : Heap) => v36 = Value.tuple #[] ∧ J31 () h37)
                                  (br (Int.tmod x (4 : Int) == (3 : Int))
                                    (makeP (5 : Nat) (1 : Nat) (1 : Nat) #[Value.int IntKind.u8 (0 : Int)] (8193 : Int) (8193 : Int) h26 fun (b38 : Nat) (h39 : Heap) =>
                                      CallsH Try.prog n_wire_Writer_String #[Value.pointer (some (Addr.mk b21 (0 : Nat) none)), Value.slice (some (Addr.mk b38 (0 : Nat) none)) (8193 : Nat) (8193 : Nat)] h39
                                        fun (v40 : Value) (h41 : Heap) => v40 = Value.tuple #[] ∧ J31 () h41)
                                    (J31 () h26))))) ∧
                          ∀ (x42 : PUnit) (h43 : Heap),
                            J31 x42 h43 →
                              ∃ (I44 : Int → Heap → Prop),
                                ∃ (μ45 : Int → Heap → Nat),
                                  I44 (0 : Int) h43 ∧
                                    ∀ (n46 : Int) (h47 : Heap),
                                      I44 n46 h47 →
                                        br (decide (n46 < (↑behind_l : Int)))
                                          ((0 : Int) ≤ n46 ∧
                                            n46 < (↑behind_l : Int) ∧
                                              deref behind fun (a48 : Addr) =>
                                                ∃ (cs49 : Array Value),
                                                  row h47 (Addr.add a48 (Int.toNat n46 * (3 : Nat))) (3 : Nat) = some cs49 ∧
                                                    CallsH Try.prog n_law01_put #[Value.pointer (some (Addr.mk b21 (0 : Nat) none)), Value.agg cs49] h47 fun (v50 : Value) (h51 : Heap) =>
                                                      v50 = Value.tuple #[] ∧ I44 (IntKind.wrap IntKind.i64 (n46 + (1 : Int))) h51 ∧ μ45 (IntKind.wrap IntKind.i64 (n46 + (1 : Int))) h51 < μ45 n46 h47)
                                          (CallsH Try.prog n_wire_Writer_Out #[Value.pointer (some (Addr.mk b21 (0 : Nat) none))] h47 fun (v52 : Value) (h53 : Heap) =>
                                            Ext h47 h53 ∧
                                              ∃ (p54 : Option Addr),
                                                ∃ (l55 : Nat),
                                                  ∃ (c56 : Nat),
                                                    ∃ (n57 : Int),
                                                      v52 = Value.tuple #[Value.slice p54 l55 c56, Value.int IntKind.i64 n57] ∧
                                                        br (n57 == (4 : Int)) (R (Value.bool ((↑l55 : Int) == (0 : Int))) h53) (R (Value.bool false) h53)))
theorem C_law01_WireSpoiled (ahead : Option Addr) (ahead_l : Nat) (ahead_c : Nat) (behind : Option Addr) (behind_l : Nat) (behind_c : Nat) (x : Int) {h : Heap} {R : Value → Heap → Prop} (H : F_law01_WireSpoiled ahead ahead_l ahead_c behind behind_l behind_c x h R) : CallsH Try.prog n_law01_WireSpoiled [(.slice ahead ahead_l ahead_c), (.slice behind behind_l behind_c), (.int .u32 x)].toArray h R :=
  fn_sound (A := A_law01_WireSpoiled) (Eq.mp (by kernel_rfl : F_law01_WireSpoiled ahead ahead_l ahead_c behind behind_l behind_c x h R = fnVc Go.Proofs.Try.prog A_law01_WireSpoiled 5 [(.slice ahead ahead_l ahead_c), (.slice behind behind_l behind_c), (.int .u32 x)] h R) H)

/- rolodex/rolodexlaw01.WireReads -/
def A_law01_WireReads : Ann := { qs := [9, 11, 12, 14, 15, 16, 18, 24, 25, 26, 27, 28, 30, 34, 44, 45, 47], loops := [(6, [(6, .slice), (7, .bool), (8, (.int .i64))])], cuts := [(3, []), (10, []), (16, [(6, .slice), (7, .bool)])] }
def F_law01_WireReads (b : Option Addr) (b_l : Nat) (b_c : Nat) (kinds : Option Addr) (kinds_l : Nat) (kinds_c : Nat) (h : Heap) (R : Value → Heap → Prop) : Prop :=
  ∃ (J0 : PUnit → Heap → Prop),
  (CallsH Try.prog n_law01_awake #[] h fun (v1 : Value) (h2 : Heap) =>
      Ext h h2 ∧
        ∃ (t3 : Bool),
          v1 = Value.bool t3 ∧
            br (!t3) (CallsH Try.prog n_law01_awake #[] h2 fun (v4 : Value) (h5 : Heap) => Ext h2 h5 ∧ ∃ (t6 : Bool), v4 = Value.bool t6 ∧ R (Value.bool t6) h5)
              (CallsH Try.prog n_ref01_Few #[Value.slice kinds kinds_l kinds_c, Value.int IntKind.i64 (60 : Int)] h2 fun (v7 : Value) (h8 : Heap) =>
                Ext h2 h8 ∧
                  ∃ (t9 : Bool),
                    v7 = Value.bool t9 ∧
                      br (!t9) (CallsH Try.prog n_law01_awake #[] h8 fun (v10 : Value) (h11 : Heap) => Ext h8 h11 ∧ ∃ (t12 : Bool), v10 = Value.bool t12 ∧ R (Value.bool t12) h11)
                        (CallsH Try.prog n_law01_small #[Value.slice kinds kinds_l kinds_c] h8 fun (v13 : Value) (h14 : Heap) =>
                          Ext h8 h14 ∧
                            ∃ (t15 : Bool),
                              v13 = Value.bool t15 ∧
                                br (!t15) (CallsH Try.prog n_law01_awake #[] h14 fun (v16 : Value) (h17 : Heap) => Ext h14 h17 ∧ ∃ (t18 : Bool), v16 = Value.bool t18 ∧ R (Value.bool t18) h17)
                                  (br (decide ((↑b_l : Int) > (9000 : Int)))
                                    (CallsH Try.prog n_law01_awake #[] h14 fun (v19 : Value) (h20 : Heap) => Ext h14 h20 ∧ ∃ (t21 : Bool), v19 = Value.bool t21 ∧ R (Value.bool t21) h20) (J0 () h14))))) ∧
    ∀ (x22 : PUnit) (h23 : Heap),
      J0 x22 h23 →
        CallsH Try.prog n_wire_New #[Value.slice b b_l b_c] h23 fun (v24 : Value) (h25 : Heap) =>
          Ext h23 h25 ∧
            ∃ (p26 : Option Addr),
              v24 = Value.pointer p26 ∧
                ∃ (I27 : (Option Addr × Nat × Nat) × Bool × Int → Heap → Prop),
                  ∃ (μ28 : (Option Addr × Nat × Nat) × Bool × Int → Heap → Nat),
                    I27 ((b, b_l, b_c), false, (0 : Int)) h25 ∧
                      ∀ (s29 : (Option Addr × Nat × Nat) × Bool × Int) (h30 : Heap),
                        I27 s29 h30 →
                          br (decide (Prod.snd (Prod.snd s29) < (↑kinds_l : Int)))
                            ((0 : Int) ≤ Prod.snd (Prod.snd s29) ∧
                              Prod.snd (Prod.snd s29) < (↑kinds_l : Int) ∧
                                deref kinds fun (a31 : Addr) =>
                                  ∃ (cs32 : Array Value),
                                    row h30 (Addr.add a31 (Int.toNat (Prod.snd (Prod.snd s29)) * (3 : Nat))) (3 : Nat) = some cs32 ∧
                                      newBlk h30 (42 : Nat) #[Value.int IntKind.i64 (0 : Int), Value.int IntKind.u64 (0 : Int), Value.slice none (0 : Nat) (0 : Nat)] fun (b33 : Nat) (h34 : Heap) =>
                                        storeP (some (3 : Nat)) h34 (Addr.mk b33 (0 : Nat) none) (Value.agg cs32) fun (h35 : Heap) =>
                                          ∃ (J36 : PUnit → Heap → Prop),
                                            (∃ (n37 : Int),
                                                cell h35 (Addr.add (Addr.mk b33 (0 : Nat) none) (0 : Nat)) = some (Value.int IntKind.i64 n37) ∧
                                                  br (decide (n37 < (1 : Int)))
                                                    (I27
                                                        ((Prod.fst (Prod.fst s29), Prod.fst (Prod.snd (Prod.fst s29)), Prod.snd (Prod.snd (Prod.fst s29))), Prod.fst (Prod.snd s29),
                                                          IntKind.wrap IntKind.i64 (Prod.snd (Prod.snd s29) + (1 : Int)))
                                                        h35 ∧
                                                      μ28
                                                          ((Prod.fst (Prod.fst s29), Prod.fst (Prod.snd (Prod.fst s29)), Prod.snd (Prod.snd (Prod.fst s29))), Prod.fst (Prod.snd s29),
                                                            IntKind.wrap IntKind.i64 (Prod.snd (Prod.snd s29) + (1 : Int)))
                                                          h35 <
                                                        μ28 s29 h30)
                                                    (∃ (n38 : Int),
                                                      cell h35 (Addr.add (Addr.mk b33 (0 : Nat) none) (0 : Nat)) = some (Value.int IntKind.i64 n38) ∧
                                                        br (decide (n38 > (8 : Int)))
                                                          (I27
                                                              ((Prod.fst (Prod.fst s29), Prod.fst (Prod.snd (Prod.fst s29)), Prod.snd (Prod.snd (Prod.fst s29))), Prod.fst (Prod.snd s29),
                                                                IntKind.wrap IntKind.i64 (Prod.snd (Prod.snd s29) + (1 : Int)))
                                                              h35 ∧
                                                            μ28
                                                                ((Prod.fst (Prod.fst s29), Prod.fst (Prod.snd (Prod.fst s29)), Prod.snd (Prod.snd (Prod.fst s29))), Prod.fst (Prod.snd s29),
                                                                  IntKind.wrap IntKind.i64 (Prod.snd (Prod.snd s29) + (1 : Int)))
                                                                h35 <
                                                              μ28 s29 h30)
                                                          (J36 () h35))) ∧
                                              ∀ (x39 : PUnit) (h40 : Heap),
                                                J36 x39 h40 →
                                                  ∃ (n41 : Int),
                                                    cell h40 (Addr.add (Addr.mk b33 (0 : Nat) none) (0 : Nat)) = some (Value.int IntKind.i64 n41) ∧
                                                      ∃ (n42 : Int),
                                                        cell h40 (Addr.add (Addr.mk b33 (0 : Nat) none) (1 : Nat)) = some (Value.int IntKind.u64 n42) ∧
                                                          CallsH Try.prog n_law01_take #[Value.pointer p26, Value.int IntKind.i64 n41, Value.int IntKind.u64 n42] h40 fun (v43 : Value) (h44 : Heap) =>
                                                            ∃ (cs45 : Array Value),
                                                              Array.size cs45 = (3 : Nat) ∧
                                                                v43 = Value.agg cs45 ∧
                                                                  newBlk h44 (42 : Nat) #[Value.int IntKind.i64 (0 : Int), Value.int IntKind.u64 (0 : Int), Value.slice none (0 : Nat) (0 : Nat)]
                                                                    fun (b46 : Nat) (h47 : Heap) =>
                                                                    storeP (some (3 : Nat)) h47 (Addr.mk b46 (0 : Nat) none) (Value.agg cs45) fun (h48 : Heap) =>
                                                                      ∃ (n49 : Int),
                                                                        cell h48 (Addr.add (Addr.mk b33 (0 : Nat) none) (0 : Nat)) = some (Value.int IntKind.i64 n49) ∧
                                                                          ∃ (n50 : Int),
                                                                            cell h48 (Addr.add (Addr.mk b33 (0 : Nat) none) (1 : Nat)) = some (Value.int IntKind.u64 n50) ∧
                                                                              CallsH Try.prog n_ref01_Take
                                                                                #[Value.slice (Prod.fst (Prod.fst s29)) (Prod.fst (Prod.snd (Prod.fst s29))) (Prod.snd (Prod.snd (Prod.fst s29))),
                                                                                  Value.int IntKind.i64 n49, Value.int IntKind.u64 n50]
                                                                                h48 fun (v51 : Value) (h52 : Heap) =>
                                                                                Ext h48 h52 ∧
                                                                                  ∃ (cs53 : Array Value),
                                                                                    Array.size cs53 = (3 : Nat) ∧
                                                                                      ∃ (p54 : Option Addr),
                                                                                        ∃ (l55 : Nat),
                                                                                          ∃ (c56 : Nat),
                                                                                            ∃ (t57 : Bool),
                                                                                              v51 = Value.tuple #[Value.agg cs53, Value.slice p54 l55 c56, Value.bool t57] ∧
                                                                                                newBlk h52 (42 : Nat)
                                                                                                  #[Value.int IntKind.i64 (0 : Int), Value.int IntKind.u64 (0 : Int),
                                                                                                    Value.slice none (0 : Nat) (0 : Nat)]
                                                                                                  fun (b58 : Nat) (h59 : Heap) =>
                                                                                                  storeP (some (3 : Nat)) h59 (Addr.mk b58 (0 : Nat) none) (Value.agg cs53) fun (h60 : Heap) =>
                                                                                                    ∃ (J61 : (Option Addr × Nat × Nat) × Bool → Heap → Prop),
                                                                                                      br (Prod.fst (Prod.snd s29))
                                                                                                          (storeP (some (3 : Nat)) h60 (Addr.mk b58 (0 : Nat) none)
                                                                                                            (Value.agg
                                                                                                              #[Value.int IntKind.i64 (0 : Int), Value.int IntKind.u64 (0 : Int),
                                                                                                                Value.slice none (0 : Nat) (0 : Nat)])
                                                                                                            fun (h62 : Heap) =>
                                                                                                            J61
                                                                                                              ((Prod.fst (Prod.fst s29), Prod.fst (Prod.snd (Prod.fst s29)),
                                                                                                                  Prod.snd (Prod.snd (Prod.fst s29))),
                                                                                                                true)
                                                                                                              h62)
                                                                                                          (br (!t57)
                                                                                                            (storeP (some (3 : Nat)) h60 (Addr.mk b58 (0 : Nat) none)
                                                                                                              (Value.agg
                                                                                                                #[Value.int IntKind.i64 (0 : Int), Value.int IntKind.u64 (0 : Int),
                                                                                                                  Value.slice none (0 : Nat) (0 : Nat)])
                                                                                                              fun (h63 : Heap) =>
                                                                                                              J61
                                                                                                                ((Prod.fst (Prod.fst s29), Prod.fst (Prod.snd (Prod.fst s29)),
                                                                                                                    Prod.snd (Prod.snd (Prod.fst s29))),
                                                                                                                  true)
                                                                                                                h63)
                                                                                                            (J61 ((p54, l55, c56), Prod.fst (Prod.snd s29)) h60)) ∧
                                                                                                        ∀ (s64 : (Option Addr × Nat × Nat) × Bool) (h65 : Heap),
                                                                                                          J61 s64 h65 →
                                                                                                            ∃ (n66 : Int),
                                                                                                              cell h65 (Addr.add (Addr.mk b46 (0 : Nat) none) (1 : Nat)) =
                                                                                                                  some (Value.int IntKind.u64 n66) ∧
                                                                                                                ∃ (n67 : Int),
                                                                                                                  cell h65 (Addr.add (Addr.mk b58 (0 : Nat) none) (1 : Nat)) =
                                                                                                                      some (Value.int IntKind.u64 n67) ∧
                                                                                                                    br (n66 != n67) (R (Value.bool false) h65)
                                                                                                                      (∃ (p68 : Option Addr),
                                                                                                                        ∃ (l69 : Nat),
                                                                                                                          ∃ (c70 : Nat),
                                                                                                                            cell h65 (Addr.add (Addr.mk b46 (0 : Nat) none) (2 : Nat)) =
                                                                                                                                some (Value.slice p68 l69 c70) ∧
                                                                                                                              ∃ (p71 : Option Addr),
                                                                                                                                ∃ (l72 : Nat),
                                                                                                                                  ∃ (c73 : Nat),
                                                                                                                                    cell h65 (Addr.add (Addr.mk b58 (0 : Nat) none) (2 : Nat)) =
                                                                                                                                        some (Value.slice p71 l72 c73) ∧
                                                                                                                                      CallsH Try.prog n_ref01_Same
                                                                                                                                        #[Value.slice p68 l69 c70, Value.slice p71 l72 c73] h65
                                                                                                                                        fun (v74 : Value) (h75 : Heap) =>
                                                                                                                                        Ext h65 h75 ∧
                                                                                                                                          ∃ (t76 : Bool),
                                                                                                                                            v74 = Value.bool t76 ∧
                                                                                                                                              br (!t76) (R (Value.bool false) h75)
                                                                                                                                                (CallsH Try.prog n_wire_Reader_Fails #[Value.pointer p26] h75
                                                                                                                                                  fun (v77 : Value) (h78 : Heap) =>
                                                                                                                                                  Ext h75 h78 ∧
                                                                                                                                                    ∃ (t79 : Bool),
                                                                                                                                                      v77 = Value.bool t79 ∧
                                                                                                                                                        br (!t79 == Prod.snd s64)
                                                                                                                                                          (R (Value.bool false) h78)
                                                                                                                                                          (CallsH Try.prog n_wire_Reader_Left
                                                                                                                                                            #[Value.pointer p26] h78
                                                                                                                                                            fun (v80 : Value) (h81 : Heap) =>
                                                                                                                                                            Ext h78 h81 ∧
                                                                                                                                                              ∃ (n82 : Int),
                                                                                                                                                                v80 = Value.int IntKind.i64 n82 ∧
                                                                                                                                                                  br
                                                                                                                                                                    (n82 !=
                                                                                                                                                                      (↑(Prod.fst
                                                                                                                                                                            (Prod.snd (Prod.fst s64))) :
                                                                                                                                                                        Int))
                                                                                                                                                                    (R (Value.bool false) h81)
                                                                                                                                                                    (CallsH Try.prog n_wire_Reader_Done
                                                                                                                                                                      #[Value.pointer p26] h81
                                                                                                                                                                      fun (v83 : Value) (h84 : Heap) =>
                                                                                                                                                                      Ext h81 h84 ∧
                                                                                                                                                                        ∃ (t85 : Bool),
                                                                                                                                                                          v83 = Value.bool t85 ∧
                                                                                                                                                                            br (!Prod.snd s64)
                                                                                                                                                                              (br
                                                                                                                                                                                (!t85 ==
                                                                                                                                                                                    ((↑(Prod.fst
                                                                                                                                                                                            (Prod.snd
                                                                                                                                                                                              (Prod.fst
                                                                                                                                                                                                s64))) :
                                                                                                                                                                                        Int) ==
                                                                                                                                                                                      (0 : Int)))
                                                                                                                                                                                (R (Value.bool false)
                                                                                                                                                                                  h84)
                                                                                                                                                                                (I27
                                                                                                                                                                                    ((Prod.fst
                                                                                                                                                                                          (Prod.fst
                                                                                                                                                                                            s64),
                                                                                                                                                                                        Prod.fst
                                                                                                                                                                                          (Prod.snd
                                                                                                                                                                                            (Prod.fst
                                                                                                                                                                                              s64)),
                                                                                                                                                                                        Prod.snd
                                                                                                                                                                                          (Prod.snd
                                                                                                                                                                                            (Prod.fst
                                                                                                                                                                                              s64))),
                                                                                                                                                                                      Prod.snd s64,
                                                                                                                                                                                      IntKind.wrap
                                                                                                                                                                                        IntKind.i64
                                                                                                                                                                                        (Prod.snd
                                                                                                                                                                                            (Prod.snd
                                                                                                                                                                                              s29) +
                                                                                                                                                                                          (1 : Int)))
                                                                                                                                                                                    h84 ∧
                                                                                                                                                                                  μ28
                                                                                                                                                                                      ((Prod.fst
                                                                                                                                                                                            (Prod.fst
                                                                                                                                                                                              s64),
                                                                                                                                                                                          Prod.fst
                                                                                                                                                                                            (Prod.snd
                                                                                                                                                                                              (Prod.fst
                                                                                                                                                                                                s64)),
                                                                                                                                                                                          Prod.snd
                                                                                                                                                                                            (Prod.snd
                                                                                                                                                                                              (Prod.fst
                                                                                                                                                                                                s64))),
                                                                                                                                                                                        Prod.snd s64,
                                                                                                                                                                                        IntKind.wrap
                                                                                                                                                                                          IntKind.i64
                                                                                                                                                                                          (Prod.snd
                                                                                                                                                                                              (Prod.snd
                                                                                                                                                                                                s29) +
                                                                                                                                                                                            (1 : Int)))
                                                                                                                                                                                      h84 <
                                                                                                                                                                                    μ28 s29 h30))
                                                                                                                                                                              (br (!t85 == false)
                                                                                                                                                                                (R (Value.bool false)
                                                                                                                                                                                  h84)
                                                                                                                                                                                (I27
                                                                                                                                                                                    ((Prod.fst
                                                                                                                                                                                          (Prod.fst
                                                                                                                                                                                            s64),
                                                                                                                                                                                        Prod.fst
                                                                                                                                                                                          (Prod.snd
                                                                                                                                                                                            (Prod.fst
                                                                                                                                                                                              s64)),
                                                                                                                                                                                        Prod.snd
                                                                                                                                                                                          (Prod.snd
                                                                                                                                                                                            (Prod.fst
                                                                                                                                                                                              s64))),
                                                                                                                                                                                      Prod.snd s64,
                                                                                                                                                                                      IntKind.wrap
                                                                                                                                                                                        IntKind.i64
                                                                                                                                                                                        (Prod.snd
                                                                                                                                                                                            (Prod.snd
                                                                                                                                                                                              s29) +
                                                                                                                                                                                          (1 : Int)))
                                                                                                                                                                                    h84 ∧
                                                                                                                                                                                  μ28
                                                                                                                                                                                      ((Prod.fst
                                                                                                                                                                                            (Prod.fst
                                                                                                                                                                                              s64),
                                                                                                                                                                                          Prod.fst
                                                                                                                                                                                            (Prod.snd
                                                                                                                                                                                              (Prod.fst
                                                                                                                                                                                                s64)),
                                                                                                                                                                                          Prod.snd
                                                                                                                                                                                            (Prod.snd
                                                                                                                                                                                              (Prod.fst
                                                                                                                                                                                                s64))),
                                                                                                                                                                                        Prod.snd s64,
                                                                                                                                                                                        IntKind.wrap
                                                                                                                                                                                          IntKind.i64
                                                                                                                                                                                          (Prod.snd
                                                                                                                                                                                              (Prod.snd
                                                                                                                                                                                                s29) +
                                                                                                                                                                                            (1 : Int)))
                                                                                                                                                                                      h84 <
                                                                                                                                                                                    μ28 s29 h30)))))))
                            (R (Value.bool true) h30)
theorem C_law01_WireReads (b : Option Addr) (b_l : Nat) (b_c : Nat) (kinds : Option Addr) (kinds_l : Nat) (kinds_c : Nat) {h : Heap} {R : Value → Heap → Prop} (H : F_law01_WireReads b b_l b_c kinds kinds_l kinds_c h R) : CallsH Try.prog n_law01_WireReads [(.slice b b_l b_c), (.slice kinds kinds_l kinds_c)].toArray h R :=
  fn_sound (A := A_law01_WireReads) (Eq.mp (by kernel_rfl : F_law01_WireReads b b_l b_c kinds kinds_l kinds_c h R = fnVc Go.Proofs.Try.prog A_law01_WireReads 6 [(.slice b b_l b_c), (.slice kinds kinds_l kinds_c)] h R) H)

/- rolodex/rolodexlaw01.WireNil -/
def A_law01_WireNil : Ann := { qs := [9, 11, 12, 14, 15, 16, 18, 24, 25, 26, 27, 28, 30, 34, 44, 45, 47] }
def F_law01_WireNil (f : Array Value) (h : Heap) (R : Value → Heap → Prop) : Prop :=
  newBlk h (42 : Nat) f fun (b0 : Nat) (h1 : Heap) =>
  CallsH Try.prog n_law01_awake #[] h1 fun (v2 : Value) (h3 : Heap) =>
    Ext h1 h3 ∧
      ∃ (t4 : Bool),
        v2 = Value.bool t4 ∧
          br (!t4) (CallsH Try.prog n_law01_awake #[] h3 fun (v5 : Value) (h6 : Heap) => Ext h3 h6 ∧ ∃ (t7 : Bool), v5 = Value.bool t7 ∧ R (Value.bool t7) h6)
            (∃ (p8 : Option Addr),
              ∃ (l9 : Nat),
                ∃ (c10 : Nat),
                  cell h3 (Addr.add (Addr.mk b0 (0 : Nat) none) (2 : Nat)) = some (Value.slice p8 l9 c10) ∧
                    br (decide ((↑l9 : Int) > (9000 : Int)))
                      (CallsH Try.prog n_law01_awake #[] h3 fun (v11 : Value) (h12 : Heap) => Ext h3 h12 ∧ ∃ (t13 : Bool), v11 = Value.bool t13 ∧ R (Value.bool t13) h12)
                      (∃ (cs14 : Array Value),
                        row h3 (Addr.mk b0 (0 : Nat) none) (3 : Nat) = some cs14 ∧
                          CallsH Try.prog n_law01_put #[Value.pointer none, Value.agg cs14] h3 fun (v15 : Value) (h16 : Heap) =>
                            v15 = Value.tuple #[] ∧
                              ∃ (n17 : Int),
                                cell h16 (Addr.add (Addr.mk b0 (0 : Nat) none) (0 : Nat)) = some (Value.int IntKind.i64 n17) ∧
                                  ∃ (n18 : Int),
                                    cell h16 (Addr.add (Addr.mk b0 (0 : Nat) none) (1 : Nat)) = some (Value.int IntKind.u64 n18) ∧
                                      CallsH Try.prog n_law01_take #[Value.pointer none, Value.int IntKind.i64 n17, Value.int IntKind.u64 n18] h16 fun (v19 : Value) (h20 : Heap) =>
                                        ∃ (cs21 : Array Value),
                                          Array.size cs21 = (3 : Nat) ∧
                                            v19 = Value.agg cs21 ∧
                                              newBlk h20 (42 : Nat) #[Value.int IntKind.i64 (0 : Int), Value.int IntKind.u64 (0 : Int), Value.slice none (0 : Nat) (0 : Nat)]
                                                fun (b22 : Nat) (h23 : Heap) =>
                                                storeP (some (3 : Nat)) h23 (Addr.mk b22 (0 : Nat) none) (Value.agg cs21) fun (h24 : Heap) =>
                                                  CallsH Try.prog n_wire_Writer_Out #[Value.pointer none] h24 fun (v25 : Value) (h26 : Heap) =>
                                                    Ext h24 h26 ∧
                                                      ∃ (p27 : Option Addr),
                                                        ∃ (l28 : Nat),
                                                          ∃ (c29 : Nat),
                                                            ∃ (n30 : Int),
                                                              v25 = Value.tuple #[Value.slice p27 l28 c29, Value.int IntKind.i64 n30] ∧
                                                                br (n30 == (1 : Int))
                                                                  (br ((↑l28 : Int) == (0 : Int))
                                                                    (∃ (n31 : Int),
                                                                      cell h26 (Addr.add (Addr.mk b22 (0 : Nat) none) (1 : Nat)) = some (Value.int IntKind.u64 n31) ∧
                                                                        br (n31 == (0 : Int))
                                                                          (∃ (p32 : Option Addr),
                                                                            ∃ (l33 : Nat),
                                                                              ∃ (c34 : Nat),
                                                                                cell h26 (Addr.add (Addr.mk b22 (0 : Nat) none) (2 : Nat)) = some (Value.slice p32 l33 c34) ∧
                                                                                  br ((↑l33 : Int) == (0 : Int))
                                                                                    (CallsH Try.prog n_wire_Reader_Left #[Value.pointer none] h26 fun (v35 : Value) (h36 : Heap) =>
                                                                                      Ext h26 h36 ∧
                                                                                        ∃ (n37 : Int),
                                                                                          v35 = Value.int IntKind.i64 n37 ∧
                                                                                            br (n37 == (0 : Int))
                                                                                              (CallsH Try.prog n_wire_Reader_Fails #[Value.pointer none] h36 fun (v38 : Value) (h39 : Heap) =>
                                                                                                Ext h36 h39 ∧
                                                                                                  ∃ (t40 : Bool),
                                                                                                    v38 = Value.bool t40 ∧
                                                                                                      br t40
                                                                                                        (CallsH Try.prog n_wire_Reader_Done #[Value.pointer none] h39 fun (v41 : Value) (h42 : Heap) =>
                                                                                                          Ext h39 h42 ∧ ∃ (t43 : Bool), v41 = Value.bool t43 ∧ R (Value.bool !t43) h42)
                                                                                                        (R (Value.bool false) h39))
                                                                                              (R (Value.bool false) h36))
                                                                                    (R (Value.bool false) h26))
                                                                          (R (Value.bool false) h26))
                                                                    (R (Value.bool false) h26))
                                                                  (R (Value.bool false) h26)))
theorem C_law01_WireNil (f : Array Value) {h : Heap} {R : Value → Heap → Prop} (H : F_law01_WireNil f h R) : CallsH Try.prog n_law01_WireNil [(.agg f)].toArray h R :=
  fn_sound (A := A_law01_WireNil) (Eq.mp (by kernel_rfl : F_law01_WireNil f h R = fnVc Go.Proofs.Try.prog A_law01_WireNil 7 [(.agg f)] h R) H)

/- rolodex/rolodexlaw01.WireBack -/
def A_law01_WireBack : Ann := { qs := [9, 11, 12, 14, 15, 16, 18, 24, 25, 26, 27, 28, 30, 34, 44, 45, 47], loops := [(5, [(4, (.int .i64))]), (13, [(8, (.int .i64))])], cuts := [(3, []), (8, []), (11, []), (18, [(9, (.int .u64))]), (22, [(11, (.int .u64))]), (24, [(11, (.int .u64))])], plans := [(25, (.take 0 (.take 1 (.take 2 (.take 3 (.take 4 (.take 5 (.take 6 (.take 7 (.take 8 (.take 9 (.take 10 (.take 11 (.take 12 (.take 13 (.take 14 (.take 15 (.take 16 (.take 17 (.take 18 (.take 19 (.take 20 (.take 21 (.take 22 (.take 23 (.take 24 (.take 25 (.take 26 (.take 27 (.take 28 (.take 29 (.alt 30 (.take 31 (.take 32 (.take 33 .done))) .stop))))))))))))))))))))))))))))))))] }
def F_law01_WireBack (l : Option Addr) (l_l : Nat) (l_c : Nat) (h : Heap) (R : Value → Heap → Prop) : Prop :=
  ∃ (J0 : PUnit → Heap → Prop),
  (CallsH Try.prog n_law01_awake #[] h fun (v1 : Value) (h2 : Heap) =>
      Ext h h2 ∧
        ∃ (t3 : Bool),
          v1 = Value.bool t3 ∧
            br (!t3) (CallsH Try.prog n_law01_awake #[] h2 fun (v4 : Value) (h5 : Heap) => Ext h2 h5 ∧ ∃ (t6 : Bool), v4 = Value.bool t6 ∧ R (Value.bool t6) h5)
              (CallsH Try.prog n_ref01_Few #[Value.slice l l_l l_c, Value.int IntKind.i64 (60 : Int)] h2 fun (v7 : Value) (h8 : Heap) =>
                Ext h2 h8 ∧
                  ∃ (t9 : Bool),
                    v7 = Value.bool t9 ∧
                      br (!t9) (CallsH Try.prog n_law01_awake #[] h8 fun (v10 : Value) (h11 : Heap) => Ext h8 h11 ∧ ∃ (t12 : Bool), v10 = Value.bool t12 ∧ R (Value.bool t12) h11)
                        (CallsH Try.prog n_law01_small #[Value.slice l l_l l_c] h8 fun (v13 : Value) (h14 : Heap) =>
                          Ext h8 h14 ∧
                            ∃ (t15 : Bool),
                              v13 = Value.bool t15 ∧
                                br (!t15) (CallsH Try.prog n_law01_awake #[] h14 fun (v16 : Value) (h17 : Heap) => Ext h14 h17 ∧ ∃ (t18 : Bool), v16 = Value.bool t18 ∧ R (Value.bool t18) h17)
                                  (J0 () h14)))) ∧
    ∀ (x19 : PUnit) (h20 : Heap),
      J0 x19 h20 →
        newBlk h20 (26 : Nat) #[Value.slice none (0 : Nat) (0 : Nat), Value.bool false] fun (b21 : Nat) (h22 : Heap) =>
          ∃ (J23 : PUnit → Heap → Prop),
            (∃ (I24 : Int → Heap → Prop),
                ∃ (μ25 : Int → Heap → Nat),
                  I24 (0 : Int) h22 ∧
                    ∀ (n26 : Int) (h27 : Heap),
                      I24 n26 h27 →
                        br (decide (n26 < (↑l_l : Int)))
                          ((0 : Int) ≤ n26 ∧
                            n26 < (↑l_l : Int) ∧
                              deref l fun (a28 : Addr) =>
                                ∃ (cs29 : Array Value),
                                  row h27 (Addr.add a28 (Int.toNat n26 * (3 : Nat))) (3 : Nat) = some cs29 ∧
                                    CallsH Try.prog n_law01_put #[Value.pointer (some (Addr.mk b21 (0 : Nat) none)), Value.agg cs29] h27 fun (v30 : Value) (h31 : Heap) =>
                                      v30 = Value.tuple #[] ∧ I24 (IntKind.wrap IntKind.i64 (n26 + (1 : Int))) h31 ∧ μ25 (IntKind.wrap IntKind.i64 (n26 + (1 : Int))) h31 < μ25 n26 h27)
                          (J23 () h27)) ∧
              ∀ (x32 : PUnit) (h33 : Heap),
                J23 x32 h33 →
                  CallsH Try.prog n_wire_Writer_Out #[Value.pointer (some (Addr.mk b21 (0 : Nat) none))] h33 fun (v34 : Value) (h35 : Heap) =>
                    Ext h33 h35 ∧
                      ∃ (p36 : Option Addr),
                        ∃ (l37 : Nat),
                          ∃ (c38 : Nat),
                            ∃ (n39 : Int),
                              v34 = Value.tuple #[Value.slice p36 l37 c38, Value.int IntKind.i64 n39] ∧
                                ∃ (J40 : PUnit → Heap → Prop),
                                  br (n39 != (0 : Int)) (R (Value.bool ((↑l37 : Int) == (0 : Int))) h35) (J40 () h35) ∧
                                    ∀ (x41 : PUnit) (h42 : Heap),
                                      J40 x41 h42 →
                                        CallsH Try.prog n_wire_New #[Value.slice p36 l37 c38] h42 fun (v43 : Value) (h44 : Heap) =>
                                          Ext h42 h44 ∧
                                            ∃ (p45 : Option Addr),
                                              v43 = Value.pointer p45 ∧
                                                ∃ (I46 : Int → Heap → Prop),
                                                  ∃ (μ47 : Int → Heap → Nat),
                                                    I46 (0 : Int) h44 ∧
                                                      ∀ (n48 : Int) (h49 : Heap),
                                                        I46 n48 h49 →
                                                          br (decide (n48 < (↑l_l : Int)))
                                                            (∃ (J50 : Int → Heap → Prop),
                                                              ((0 : Int) ≤ n48 ∧
                                                                  n48 < (↑l_l : Int) ∧
                                                                    deref l fun (a51 : Addr) =>
                                                                      ∃ (n52 : Int),
                                                                        cell h49 (Addr.add (Addr.add a51 (Int.toNat n48 * (3 : Nat))) (0 : Nat)) = some (Value.int IntKind.i64 n52) ∧
                                                                          br (n52 == (6 : Int))
                                                                            ((0 : Int) ≤ n48 ∧
                                                                              n48 < (↑l_l : Int) ∧
                                                                                deref l fun (a53 : Addr) =>
                                                                                  ∃ (p54 : Option Addr),
                                                                                    ∃ (l55 : Nat),
                                                                                      ∃ (c56 : Nat),
                                                                                        cell h49 (Addr.add (Addr.add a53 (Int.toNat n48 * (3 : Nat))) (2 : Nat)) = some (Value.slice p54 l55 c56) ∧
                                                                                          J50 (IntKind.wrap IntKind.u64 (↑l55 : Int)) h49)
                                                                            (J50 (9000 : Int) h49)) ∧
                                                                ∀ (n57 : Int) (h58 : Heap),
                                                                  J50 n57 h58 →
                                                                    (0 : Int) ≤ n48 ∧
                                                                      n48 < (↑l_l : Int) ∧
                                                                        deref l fun (a59 : Addr) =>
                                                                          ∃ (n60 : Int),
                                                                            cell h58 (Addr.add (Addr.add a59 (Int.toNat n48 * (3 : Nat))) (0 : Nat)) = some (Value.int IntKind.i64 n60) ∧
                                                                              CallsH Try.prog n_law01_take #[Value.pointer p45, Value.int IntKind.i64 n60, Value.int IntKind.u64 n57] h58
                                                                                fun (v61 : Value) (h62 : Heap) =>
                                                                                ∃ (cs63 : Array Value),
                                                                                  Array.size cs63 = (3 : Nat) ∧
                                                                                    v61 = Value.agg cs63 ∧
                                                                                      newBlk h62 (42 : Nat)
                                                                                        #[Value.int IntKind.i64 (0 : Int), Value.int IntKind.u64 (0 : Int), Value.slice none (0 : Nat) (0 : Nat)]
                                                                                        fun (b64 : Nat) (h65 : Heap) =>
                                                                                        storeP (some (3 : Nat)) h65 (Addr.mk b64 (0 : Nat) none) (Value.agg cs63) fun (h66 : Heap) =>
                                                                                          (0 : Int) ≤ n48 ∧
                                                                                            n48 < (↑l_l : Int) ∧
                                                                                              deref l fun (a67 : Addr) =>
                                                                                                ∃ (n68 : Int),
                                                                                                  cell h66 (Addr.add (Addr.add a67 (Int.toNat n48 * (3 : Nat))) (1 : Nat)) =
                                                                                                      some (Value.int IntKind.u64 n68) ∧
                                                                                                    ∃ (J69 : Int → Heap → Prop),
                                                                                                      ((0 : Int) ≤ n48 ∧
                                                                                                          n48 < (↑l_l : Int) ∧
                                                                                                            deref l fun (a70 : Addr) =>
                                                                                                              ∃ (n71 : Int),
                                                                                                                cell h66 (Addr.add (Addr.add a70 (Int.toNat n48 * (3 : Nat))) (0 : Nat)) =
                                                                                                                    some (Value.int IntKind.i64 n71) ∧
                                                                                                                  br (n71 == (3 : Int))
                                                                                                                    ((4294967296 : Int) ≠ (0 : Int) ∧ J69 (Int.tmod n68 (4294967296 : Int)) h66)
                                                                                                                    (J69 n68 h66)) ∧
                                                                                                        ∀ (n72 : Int) (h73 : Heap),
                                                                                                          J69 n72 h73 →
                                                                                                            ∃ (J74 : Int → Heap → Prop),
                                                                                                              ((0 : Int) ≤ n48 ∧
                                                                                                                  n48 < (↑l_l : Int) ∧
                                                                                                                    deref l fun (a75 : Addr) =>
                                                                                                                      ∃ (n76 : Int),
                                                                                                                        cell h73 (Addr.add (Addr.add a75 (Int.toNat n48 * (3 : Nat))) (0 : Nat)) =
                                                                                                                            some (Value.int IntKind.i64 n76) ∧
                                                                                                                          br (n76 == (5 : Int))
                                                                                                                            ((2 : Int) ≠ (0 : Int) ∧ J74 (Int.tmod n72 (2 : Int)) h73) (J74 n72 h73)) ∧
                                                                                                                ∀ (n77 : Int) (h78 : Heap),
                                                                                                                  J74 n77 h78 →
                                                                                                                    (0 : Int) ≤ n48 ∧
                                                                                                                      n48 < (↑l_l : Int) ∧
                                                                                                                        deref l fun (a79 : Addr) =>
                                                                                                                          ∃ (n80 : Int),
                                                                                                                            cell h78 (Addr.add (Addr.add a79 (Int.toNat n48 * (3 : Nat))) (0 : Nat)) =
                                                                                                                                some (Value.int IntKind.i64 n80) ∧
                                                                                                                              CallsH Try.prog n_ref01_Size #[Value.int IntKind.i64 n80] h78
                                                                                                                                fun (v81 : Value) (h82 : Heap) =>
                                                                                                                                Ext h78 h82 ∧
                                                                                                                                  ∃ (n83 : Int),
                                                                                                                                    v81 = Value.int IntKind.i64 n83 ∧
                                                                                                                                      br (decide (n83 > (0 : Int)))
                                                                                                                                        (∃ (n84 : Int),
                                                                                                                                          cell h82 (Addr.add (Addr.mk b64 (0 : Nat) none) (1 : Nat)) =
                                                                                                                                              some (Value.int IntKind.u64 n84) ∧
                                                                                                                                            br (n84 != n77) (R (Value.bool false) h82)
                                                                                                                                              ((0 : Int) ≤ n48 ∧
                                                                                                                                                n48 < (↑l_l : Int) ∧
                                                                                                                                                  deref l fun (a85 : Addr) =>
                                                                                                                                                    ∃ (n86 : Int),
                                                                                                                                                      cell h82
                                                                                                                                                            (Addr.add
                                                                                                                                                              (Addr.add a85 (Int.toNat n48 * (3 : Nat)))
                                                                                                                                                              (0 : Nat)) =
                                                                                                                                                          some (Value.int IntKind.i64 n86) ∧
                                                                                                                                                        br (n86 == (6 : Int))
                                                                                                                                                          (∃ (p87 : Option Addr),
                                                                                                                                                            ∃ (l88 : Nat),
                                                                                                                                                              ∃ (c89 : Nat),
                                                                                                                                                                cell h82
                                                                                                                                                                      (Addr.add
                                                                                                                                                                        (Addr.mk b64 (0 : Nat) none)
                                                                                                                                                                        (2 : Nat)) =
                                                                                                                                                                    some (Value.slice p87 l88 c89) ∧
                                                                                                                                                                  (0 : Int) ≤ n48 ∧
                                                                                                                                                                    n48 < (↑l_l : Int) ∧
                                                                                                                                                                      deref l fun (a90 : Addr) =>
                                                                                                                                                                        ∃ (p91 : Option Addr),
                                                                                                                                                                          ∃ (l92 : Nat),
                                                                                                                                                                            ∃ (c93 : Nat),
                                                                                                                                                                              cell h82
                                                                                                                                                                                    (Addr.add
                                                                                                                                                                                      (Addr.add a90
                                                                                                                                                                                        (Int.toNat n48 *
                                                                                                                                                                                          (3 : Nat)))
                                                                                                                                                                                      (2 : Nat)) =
                                                                                                                                                                                  some
                                                                                                                                                                                    (Value.slice p91 l92
                                                                                                                                                                                      c93) ∧
                                                                                                                                                                                CallsH Try.prog
                                                                                                                                                                                  (14 : Nat)
                                                                                                                                                                                  #[Value.slice p87 l88
                                                                                                                                                                                      c89,
                                                                                                                                                                                    Value.slice p91 l92
                                                                                                                                                                                      c93]
                                                                                                                                                                                  h82
                                                                                                                                                                                  fun (v94 : Value)
                                                                                                                                                                                    (h95 : Heap) =>
                                                                                                                                                                                  Ext h82 h95 ∧
                                                                                                                                                                                    ∃ (t96 : Bool),
                                                                                                                                                                                      v94 =
                                                                                                                                                                                          Value.bool
                                                                                                                                                                                            t96 ∧
                                                                                                                                                                                        br (!t96)
                                                                                                                                                                                          (R
                                                                                                                                                                                            (Value.bool
                                                                                                                                                                                              false)
                                                                                                                                                                                            h95)
                                                                                                                                                                                          (I46
                                                                                                                                                                                              (IntKind.wrap
                                                                                                                                                                                                IntKind.i64
                                                                                                                                                                                                (n48 +
                                                                                                                                                                                                  (1 :
                                                                                                                                                                                                    Int)))
                                                                                                                                                                                              h95 ∧
                                                                                                                                                                                            μ47
                                                                                                                                                                                                (IntKind.wrap
                                                                                                                                                                                                  IntKind.i64
                                                                                                                                                                                                  (n48 +
                                                                                                                                                                                                    (1 :
                                                                                                                                                                                                      Int)))
                                                                                                                                                                                                h95 <
                                                                                                                                                                                              μ47 n48
                                                                                                                                                                                                h49))
                                                                                                                                                          ((0 : Int) ≤ n48 ∧
                                                                                                                                                            n48 < (↑l_l : Int) ∧
                                                                                                                                                              deref l fun (a97 : Addr) =>
                                                                                                                                                                ∃ (n98 : Int),
                                                                                                                                                                  cell h82
                                                                                                                                                                        (Addr.add
                                                                                                                                                                          (Addr.add a97
                                                                                                                                                                            (Int.toNat n48 * (3 : Nat)))
                                                                                                                                                                          (0 : Nat)) =
                                                                                                                                                                      some (Value.int IntKind.i64 n98) ∧
                                                                                                                                                                    br (n98 == (7 : Int))
                                                                                                                                                                      (∃ (p99 : Option Addr),
                                                                                                                                                                        ∃ (l100 : Nat),
                                                                                                                                                                          ∃ (c101 : Nat),
                                                                                                                                                                            cell h82
                                                                                                                                                                                  (Addr.add
                                                                                                                                                                                    (Addr.mk b64
                                                                                                                                                                                      (0 : Nat) none)
                                                                                                                                                                                    (2 : Nat)) =
                                                                                                                                                                                some
                                                                                                                                                                                  (Value.slice p99 l100
                                                                                                                                                                                    c101) ∧
                                                                                                                                                                              (0 : Int) ≤ n48 ∧
                                                                                                                                                                                n48 < (↑l_l : Int) ∧
                                                                                                                                                                                  deref l
                                                                                                                                                                                    fun (a102 : Addr) =>
                                                                                                                                                                                    ∃ (p103 :
                                                                                                                                                                                      Option Addr),
                                                                                                                                                                                      ∃ (l104 : Nat),
                                                                                                                                                                                        ∃ (c105 : Nat),
                                                                                                                                                                                          cell h82
                                                                                                                                                                                                (Addr.add
                                                                                                                                                                                                  (Addr.add
                                                                                                                                                                                                    a102
                                                                                                                                                                                                    (Int.toNat
                                                                                                                                                                                                        n48 *
                                                                                                                                                                                                      (3 :
                                                                                                                                                                                                        Nat)))
                                                                                                                                                                                                  (2 :
                                                                                                                                                                                                    Nat)) =
                                                                                                                                                                                              some
                                                                                                                                                                                                (Value.slice
                                                                                                                                                                                                  p103
                                                                                                                                                                                                  l104
                                                                                                                                                                                                  c105) ∧
                                                                                                                                                                                            CallsH
                                                                                                                                                                                              Try.prog
                                                                                                                                                                                              (14 : Nat)
                                                                                                                                                                                              #[Value.slice
                                                                                                                                                                                                  p99
                                                                                                                                                                                                  l100
                                                                                                                                                                                                  c101,
                                                                                                                                                                                                Value.slice
                                                                                                                                                                                                  p103
                                                                                                                                                                                                  l104
                                                                                                                                                                                                  c105]
                                                                                                                                                                                              h82
                                                                                                                                                                                              fun
                                                                                                                                                                                                (v106 :
                                                                                                                                                                                                  Value)
                                                                                                                                                                                                (h107 :
                                                                                                                                                                                                  Heap) =>
                                                                                                                                                                                              Ext h82
                                                                                                                                                                                                  h107 ∧
                                                                                                                                                                                                ∃ (t108
                                                                                                                                                                                                  :
                                                                                                                                                                                                  Bool),
                                                                                                                                                                                                  v106 =
                                                                                                                                                                                                      Value.bool
                                                                                                                                                                                                        t108 ∧
                                                                                                                                                                                                    br
                                                                                                                                                                                                      (!t108)
                                                                                                                                                                                                      (R
                                                                                                                                                                                                        (Value.bool
                                                                                                                                                                                                          false)
                                                                                                                                                                                                        h107)
                                                                                                                                                                                                      (I46
                                                                                                                                                                                                          (IntKind.wrap
                                                                                                                                                                                                            IntKind.i64
                                                                                                                                                                                                            (n48 +
                                                                                                                                                                                                              (1 :
                                                                                                                                                                                                                Int)))
                                                                                                                                                                                                          h107 ∧
                                                                                                                                                                                                        μ47
                                                                                                                                                                                                            (IntKind.wrap
                                                                                                                                                                                                              IntKind.i64
                                                                                                                                                                                                              (n48 +
                                                                                                                                                                                                                (1 :
                                                                                                                                                                                                                  Int)))
                                                                                                                                                                                                            h107 <
                                                                                                                                                                                                          μ47
                                                                                                                                                                                                            n48
                                                                                                                                                                                                            h49))
                                                                                                                                                                      (I46
                                                                                                                                                                          (IntKind.wrap IntKind.i64
                                                                                                                                                                            (n48 + (1 : Int)))
                                                                                                                                                                          h82 ∧
                                                                                                                                                                        μ47
                                                                                                                                                                            (IntKind.wrap IntKind.i64
                                                                                                                                                                              (n48 + (1 : Int)))
                                                                                                                                                                            h82 <
                                                                                                                                                                          μ47 n48 h49))))
                                                                                                                                        ((0 : Int) ≤ n48 ∧
                                                                                                                                          n48 < (↑l_l : Int) ∧
                                                                                                                                            deref l fun (a109 : Addr) =>
                                                                                                                                              ∃ (n110 : Int),
                                                                                                                                                cell h82
                                                                                                                                                      (Addr.add
                                                                                                                                                        (Addr.add a109 (Int.toNat n48 * (3 : Nat)))
                                                                                                                                                        (0 : Nat)) =
                                                                                                                                                    some (Value.int IntKind.i64 n110) ∧
                                                                                                                                                  br (n110 == (6 : Int))
                                                                                                                                                    (∃ (p111 : Option Addr),
                                                                                                                                                      ∃ (l112 : Nat),
                                                                                                                                                        ∃ (c113 : Nat),
                                                                                                                                                          cell h82
                                                                                                                                                                (Addr.add (Addr.mk b64 (0 : Nat) none)
                                                                                                                                                                  (2 : Nat)) =
                                                                                                                                                              some (Value.slice p111 l112 c113) ∧
                                                                                                                                                            (0 : Int) ≤ n48 ∧
                                                                                                                                                              n48 < (↑l_l : Int) ∧
                                                                                                                                                                deref l fun (a114 : Addr) =>
                                                                                                                                                                  ∃ (p115 : Option Addr),
                                                                                                                                                                    ∃ (l116 : Nat),
                                                                                                                                                                      ∃ (c117 : Nat),
                                                                                                                                                                        cell h82
                                                                                                                                                                              (Addr.add
                                                                                                                                                                                (Addr.add a114
                                                                                                                                                                                  (Int.toNat n48 *
                                                                                                                                                                                    (3 : Nat)))
                                                                                                                                                                                (2 : Nat)) =
                                                                                                                                                                            some
                                                                                                                                                                              (Value.slice p115 l116
                                                                                                                                                                                c117) ∧
                                                                                                                                                                          CallsH Try.prog n_ref01_Same
                                                                                                                                                                            #[Value.slice p111 l112
                                                                                                                                                                                c113,
                                                                                                                                                                              Value.slice p115 l116
                                                                                                                                                                                c117]
                                                                                                                                                                            h82
                                                                                                                                                                            fun (v118 : Value)
                                                                                                                                                                              (h119 : Heap) =>
                                                                                                                                                                            Ext h82 h119 ∧
                                                                                                                                                                              ∃ (t120 : Bool),
                                                                                                                                                                                v118 = Value.bool t120 ∧
                                                                                                                                                                                  br (!t120)
                                                                                                                                                                                    (R
                                                                                                                                                                                      (Value.bool false)
                                                                                                                                                                                      h119)
                                                                                                                                                                                    (I46
                                                                                                                                                                                        (IntKind.wrap
                                                                                                                                                                                          IntKind.i64
                                                                                                                                                                                          (n48 +
                                                                                                                                                                                            (1 : Int)))
                                                                                                                                                                                        h119 ∧
                                                                                                                                                                                      μ47
                                                                                                                                                                                          (IntKind.wrap
                                                                                                                                                                                            IntKind.i64
                                                                                                                                                                                            (n48 +
                                                                                                                                                                                              (1 :
                                                                                                                                                                                                Int)))
                                                                                                                                                                                          h119 <
                                                                                                                                                                                        μ47 n48 h49))
                                                                                                                                                    ((0 : Int) ≤ n48 ∧
                                                                                                                                                      n48 < (↑l_l : Int) ∧
                                                                                                                                                        deref l fun (a121 : Addr) =>
                                                                                                                                                          ∃ (n122 : Int),
                                                                                                                                                            cell h82
                                                                                                                                                                  (Addr.add
                                                                                                                                                                    (Addr.add a121
                                                                                                                                                                      (Int.toNat n48 * (3 : Nat)))
                                                                                                                                                                    (0 : Nat)) =
                                                                                                                                                                some (Value.int IntKind.i64 n122) ∧
                                                                                                                                                              br (n122 == (7 : Int))
                                                                                                                                                                (∃ (p123 : Option Addr),
                                                                                                                                                                  ∃ (l124 : Nat),
                                                                                                                                                                    ∃ (c125 : Nat),
                                                                                                                                                                      cell h82
                                                                                                                                                                            (Addr.add
                                                                                                                                                                              (Addr.mk b64 (0 : Nat)
                                                                                                                                                                                none)
                                                                                                                                                                              (2 : Nat)) =
                                                                                                                                                                          some
                                                                                                                                                                            (Value.slice p123 l124
                                                                                                                                                                              c125) ∧
                                                                                                                                                                        (0 : Int) ≤ n48 ∧
                                                                                                                                                                          n48 < (↑l_l : Int) ∧
                                                                                                                                                                            deref l fun (a126 : Addr) =>
                                                                                                                                                                              ∃ (p127 : Option Addr),
                                                                                                                                                                                ∃ (l128 : Nat),
                                                                                                                                                                                  ∃ (c129 : Nat),
                                                                                                                                                                                    cell h82
                                                                                                                                                                                          (Addr.add
                                                                                                                                                                                            (Addr.add
                                                                                                                                                                                              a126
                                                                                                                                                                                              (Int.toNat
                                                                                                                                                                                                  n48 *
                                                                                                                                                                                                (3 :
                                                                                                                                                                                                  Nat)))
                                                                                                                                                                                            (2 : Nat)) =
                                                                                                                                                                                        some
                                                                                                                                                                                          (Value.slice
                                                                                                                                                                                            p127 l128
                                                                                                                                                                                            c129) ∧
                                                                                                                                                                                      CallsH Try.prog
                                                                                                                                                                                        (14 : Nat)
                                                                                                                                                                                        #[Value.slice
                                                                                                                                                                                            p123 l124
                                                                                                                                                                                            c125,
                                                                                                                                                                                          Value.slice
                                                                                                                                                                                            p127 l128
                                                                                                                                                                                            c129]
                                                                                                                                                                                        h82
                                                                                                                                                                                        fun
                                                                                                                                                                                          (v130 : Value)
                                                                                                                                                                                          (h131 :
                                                                                                                                                                                            Heap) =>
                                                                                                                                                                                        Ext h82 h131 ∧
                                                                                                                                                                                          ∃ (t132 :
                                                                                                                                                                                            Bool),
                                                                                                                                                                                            v130 =
                                                                                                                                                                                                Value.bool
                                                                                                                                                                                                  t132 ∧
                                                                                                                                                                                              br (!t132)
                                                                                                                                                                                                (R
                                                                                                                                                                                                  (Value.bool
                                                                                                                                                                                                    false)
                                                                                                                                                                                                  h131)
                                                                                                                                                                                                (I46
                                                                                                                                                                                                    (IntKind.wrap
                                                                                                                                                                                                      IntKind.i64
                                                                                                                                                                                                      (n48 +
                                                                                                                                                                                                        (1 :
                                                                                                                                                                                                          Int)))
                                                                                                                                                                                                    h131 ∧
                                                                                                                                                                                                  μ47
                                                                                                                                                                                                      (IntKind.wrap
                                                                                                                                                                                                        IntKind.i64
                                                                                                                                                                                                        (n48 +
                                                                                                                                                                                                          (1 :
                                                                                                                                                                                                            Int)))
                                                                                                                                                                                                      h131 <
                                                                                                                                                                                                    μ47
                                                                                                                                                                                                      n48
                                                                                                                                                                                                      h49))
                                                                                                                                                                (I46
                                                                                                                                                                    (IntKind.wrap IntKind.i64
                                                                                                                                                                      (n48 + (1 : Int)))
                                                                                                                                                                    h82 ∧
                                                                                                                                                                  μ47
                                                                                                                                                                      (IntKind.wrap IntKind.i64
                                                                                                                                                                        (n48 + (1 : Int)))
                                                                                                                                                                      h82 <
                                                                                                                                                                    μ47 n48 h49))))
                                                            (CallsH Try.prog n_wire_Reader_Done #[Value.pointer p45] h49 fun (v133 : Value) (h134 : Heap) =>
                                                              Ext h49 h134 ∧ ∃ (t135 : Bool), v133 = Value.bool t135 ∧ R (Value.bool t135) h134)
theorem C_law01_WireBack (l : Option Addr) (l_l : Nat) (l_c : Nat) {h : Heap} {R : Value → Heap → Prop} (H : F_law01_WireBack l l_l l_c h R) : CallsH Try.prog n_law01_WireBack [(.slice l l_l l_c)].toArray h R :=
  fn_sound (A := A_law01_WireBack) (Eq.mp (by kernel_rfl : F_law01_WireBack l l_l l_c h R = fnVc Go.Proofs.Try.prog A_law01_WireBack 8 [(.slice l l_l l_c)] h R) H)

end Go.Proofs.Ytlalhdkehcldkaa
