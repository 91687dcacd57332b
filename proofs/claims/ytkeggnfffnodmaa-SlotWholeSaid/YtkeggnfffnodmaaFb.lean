/- The formulas of some functions, and that each is what its code comes to. Written by a program of ours. -/
import Derived.Test.YtkeggnfffnodmaaVcO
import Derived.Test.YtkeggnfffnodmaaNm
import Derived.Test.YtkeggnfffnodmaaProg
import Derived.KernelRfl
set_option linter.unusedVariables false
set_option maxRecDepth 100000
namespace Go.Proofs.Ytkeggnfffnodmaa
open Go Go.Vc Go.Proofs

/- rolodex/rolodexref01.Number -/
def A_ref01_Number : Ann := { qs := [8, 9, 11, 12, 13, 15, 16, 25, 26, 27, 28, 29, 30, 32, 33, 35, 36, 40, 41, 44, 46, 47, 51, 52], loops := [(3, [(0, (.int .u64)), (5, .slice), (7, (.int .i64))]), (8, [(6, .slice), (8, (.int .i64))])] }
def F_ref01_Number (x : Int) (bytes : Int) (h : Heap) (R : Value → Heap → Prop) : Prop :=
  ∃ (I0 : Int × (Option Addr × Nat × Nat) × Int → Heap → Prop),
  ∃ (μ1 : Int × (Option Addr × Nat × Nat) × Int → Heap → Nat),
    I0 (x, (none, (0 : Nat), (0 : Nat)), (0 : Int)) h ∧
      ∀ (s2 : Int × (Option Addr × Nat × Nat) × Int) (h3 : Heap),
        I0 s2 h3 →
          br (decide (Prod.snd (Prod.snd s2) < bytes))
            ((256 : Int) ≠ (0 : Int) ∧
              newBlk h3 (5 : Nat) #[Value.int IntKind.u8 (IntKind.wrap IntKind.u8 (Int.tmod (Prod.fst s2) (256 : Int)))] fun (b4 : Nat) (h5 : Heap) =>
                appendP (5 : Nat) (1 : Nat) (1 : Nat) #[Value.int IntKind.u8 (0 : Int)] (Prod.fst (Prod.fst (Prod.snd s2))) (Prod.fst (Prod.snd (Prod.fst (Prod.snd s2))))
                  (Prod.snd (Prod.snd (Prod.fst (Prod.snd s2)))) (some (Addr.mk b4 (0 : Nat) none)) (1 : Nat) h5 fun (p6 : Option Addr) (l7 c8 : Nat) (h9 : Heap) =>
                  (256 : Int) ≠ (0 : Int) ∧
                    I0 (IntKind.wrap IntKind.u64 (Int.tdiv (Prod.fst s2) (256 : Int)), (p6, l7, c8), IntKind.wrap IntKind.i64 (Prod.snd (Prod.snd s2) + (1 : Int))) h9 ∧
                      μ1 (IntKind.wrap IntKind.u64 (Int.tdiv (Prod.fst s2) (256 : Int)), (p6, l7, c8), IntKind.wrap IntKind.i64 (Prod.snd (Prod.snd s2) + (1 : Int))) h9 < μ1 s2 h3)
            (∃ (I10 : (Option Addr × Nat × Nat) × Int → Heap → Prop),
              ∃ (μ11 : (Option Addr × Nat × Nat) × Int → Heap → Nat),
                I10 ((none, (0 : Nat), (0 : Nat)), IntKind.wrap IntKind.i64 (bytes - (1 : Int))) h3 ∧
                  ∀ (s12 : (Option Addr × Nat × Nat) × Int) (h13 : Heap),
                    I10 s12 h13 →
                      br (decide (Prod.snd s12 ≥ (0 : Int)))
                        ((0 : Int) ≤ Prod.snd s12 ∧
                          Prod.snd s12 < (↑(Prod.fst (Prod.snd (Prod.fst (Prod.snd s2)))) : Int) ∧
                            deref (Prod.fst (Prod.fst (Prod.snd s2))) fun (a14 : Addr) =>
                              ∃ (n15 : Int),
                                cell h13 (Addr.add a14 (Int.toNat (Prod.snd s12) * (1 : Nat))) = some (Value.int IntKind.u8 n15) ∧
                                  newBlk h13 (5 : Nat) #[Value.int IntKind.u8 n15] fun (b16 : Nat) (h17 : Heap) =>
                                    appendP (5 : Nat) (1 : Nat) (1 : Nat) #[Value.int IntKind.u8 (0 : Int)] (Prod.fst (Prod.fst s12)) (Prod.fst (Prod.snd (Prod.fst s12)))
                                      (Prod.snd (Prod.snd (Prod.fst s12))) (some (Addr.mk b16 (0 : Nat) none)) (1 : Nat) h17 fun (p18 : Option Addr) (l19 c20 : Nat) (h21 : Heap) =>
                                      I10 ((p18, l19, c20), IntKind.wrap IntKind.i64 (Prod.snd s12 - (1 : Int))) h21 ∧
                                        μ11 ((p18, l19, c20), IntKind.wrap IntKind.i64 (Prod.snd s12 - (1 : Int))) h21 < μ11 s12 h13)
                        (R (Value.slice (Prod.fst (Prod.fst s12)) (Prod.fst (Prod.snd (Prod.fst s12))) (Prod.snd (Prod.snd (Prod.fst s12)))) h13))
theorem C_ref01_Number (x : Int) (bytes : Int) {h : Heap} {R : Value → Heap → Prop} (H : F_ref01_Number x bytes h R) : CallsH Try.prog n_ref01_Number [(.int .u64 x), (.int .i64 bytes)].toArray h R :=
  fn_sound (A := A_ref01_Number) (Eq.mp (by kernel_rfl : F_ref01_Number x bytes h R = fnVc Go.Proofs.Try.prog A_ref01_Number 47 [(.int .u64 x), (.int .i64 bytes)] h R) H)

/- rolodex/rolodexref01.Value -/
def A_ref01_Value : Ann := { qs := [8, 9, 11, 12, 13, 15, 16, 25, 26, 27, 28, 29, 30, 32, 33, 35, 36, 40, 41, 44, 46, 47, 51, 52], loops := [(3, [(3, (.int .u64)), (4, (.int .i64))])] }
def F_ref01_Value (b : Option Addr) (b_l : Nat) (b_c : Nat) (h : Heap) (R : Value → Heap → Prop) : Prop :=
  ∃ (I0 : Int × Int → Heap → Prop),
  ∃ (μ1 : Int × Int → Heap → Nat),
    I0 ((0 : Int), (0 : Int)) h ∧
      ∀ (s2 : Int × Int) (h3 : Heap),
        I0 s2 h3 →
          br (decide (Prod.snd s2 < (↑b_l : Int)))
            ((0 : Int) ≤ Prod.snd s2 ∧
              Prod.snd s2 < (↑b_l : Int) ∧
                deref b fun (a4 : Addr) =>
                  ∃ (n5 : Int),
                    cell h3 (Addr.add a4 (Int.toNat (Prod.snd s2) * (1 : Nat))) = some (Value.int IntKind.u8 n5) ∧
                      I0 (IntKind.wrap IntKind.u64 (IntKind.wrap IntKind.u64 (Prod.fst s2 * (256 : Int)) + IntKind.wrap IntKind.u64 n5), IntKind.wrap IntKind.i64 (Prod.snd s2 + (1 : Int))) h3 ∧
                        μ1 (IntKind.wrap IntKind.u64 (IntKind.wrap IntKind.u64 (Prod.fst s2 * (256 : Int)) + IntKind.wrap IntKind.u64 n5), IntKind.wrap IntKind.i64 (Prod.snd s2 + (1 : Int))) h3 <
                          μ1 s2 h3)
            (R (Value.int IntKind.u64 (Prod.fst s2)) h3)
theorem C_ref01_Value (b : Option Addr) (b_l : Nat) (b_c : Nat) {h : Heap} {R : Value → Heap → Prop} (H : F_ref01_Value b b_l b_c h R) : CallsH Try.prog n_ref01_Value [(.slice b b_l b_c)].toArray h R :=
  fn_sound (A := A_ref01_Value) (Eq.mp (by kernel_rfl : F_ref01_Value b b_l b_c h R = fnVc Go.Proofs.Try.prog A_ref01_Value 32 [(.slice b b_l b_c)] h R) H)

end Go.Proofs.Ytkeggnfffnodmaa
