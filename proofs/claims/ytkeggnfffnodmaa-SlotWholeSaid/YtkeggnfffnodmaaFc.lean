/- The formulas of some functions, and that each is what its code comes to. Written by a program of ours. -/
import Derived.Test.YtkeggnfffnodmaaVcO
import Derived.Test.YtkeggnfffnodmaaNm
import Derived.Test.YtkeggnfffnodmaaProg
import Derived.KernelRfl
set_option linter.unusedVariables false
set_option maxRecDepth 100000
namespace Go.Proofs.Ytkeggnfffnodmaa
open Go Go.Vc Go.Proofs

/- slices.Clone[[]byte,byte] -/
def A_slices_Clone_byte_byte : Ann := { qs := [8, 9, 11, 12, 13, 15, 16, 25, 26, 27, 28, 29, 30, 32, 33, 35, 36, 40, 41, 44, 46, 47, 51, 52] }
def F_slices_Clone_byte_byte (s : Option Addr) (s_l : Nat) (s_c : Nat) (h : Heap) (R : Value → Heap → Prop) : Prop :=
  br (Option.isNone s) (R (Value.slice none (0 : Nat) (0 : Nat)) h)
  (newBlk h (5 : Nat) #[] fun (b0 : Nat) (h1 : Heap) =>
    appendP (5 : Nat) (1 : Nat) (1 : Nat) #[Value.int IntKind.u8 (0 : Int)] (some (Addr.mk b0 (0 : Nat) none)) (0 : Nat) (0 : Nat) s s_l h1 fun (p2 : Option Addr) (l3 c4 : Nat) (h5 : Heap) =>
      R (Value.slice p2 l3 c4) h5)
theorem C_slices_Clone_byte_byte (s : Option Addr) (s_l : Nat) (s_c : Nat) {h : Heap} {R : Value → Heap → Prop} (H : F_slices_Clone_byte_byte s s_l s_c h R) : CallsH Try.prog n_slices_Clone_byte_byte [(.slice s s_l s_c)].toArray h R :=
  fn_sound (A := A_slices_Clone_byte_byte) (Eq.mp (by kernel_rfl : F_slices_Clone_byte_byte s s_l s_c h R = fnVc Go.Proofs.Try.prog A_slices_Clone_byte_byte 30 [(.slice s s_l s_c)] h R) H)

/- rolodex/rolodexref01.Same -/
def A_ref01_Same : Ann := { qs := [8, 9, 11, 12, 13, 15, 16, 25, 26, 27, 28, 29, 30, 32, 33, 35, 36, 40, 41, 44, 46, 47, 51, 52], loops := [(4, [(5, (.int .i64))])], plans := [(6, (.take 0 (.take 1 (.take 2 (.take 3 (.take 4 (.take 5 (.take 6 (.take 7 (.take 8 .done))))))))))] }
def F_ref01_Same (a : Option Addr) (a_l : Nat) (a_c : Nat) (b : Option Addr) (b_l : Nat) (b_c : Nat) (h : Heap) (R : Value → Heap → Prop) : Prop :=
  br ((↑a_l : Int) != (↑b_l : Int)) (R (Value.bool false) h)
  (∃ (I0 : Int → Heap → Prop),
    ∃ (μ1 : Int → Heap → Nat),
      I0 (0 : Int) h ∧
        ∀ (n2 : Int) (h3 : Heap),
          I0 n2 h3 →
            br (decide (n2 < (↑a_l : Int)))
              ((0 : Int) ≤ n2 ∧
                n2 < (↑a_l : Int) ∧
                  deref a fun (a4 : Addr) =>
                    ∃ (n5 : Int),
                      cell h3 (Addr.add a4 (Int.toNat n2 * (1 : Nat))) = some (Value.int IntKind.u8 n5) ∧
                        (0 : Int) ≤ n2 ∧
                          n2 < (↑b_l : Int) ∧
                            deref b fun (a6 : Addr) =>
                              ∃ (n7 : Int),
                                cell h3 (Addr.add a6 (Int.toNat n2 * (1 : Nat))) = some (Value.int IntKind.u8 n7) ∧
                                  br (n5 != n7) (R (Value.bool false) h3) (I0 (IntKind.wrap IntKind.i64 (n2 + (1 : Int))) h3 ∧ μ1 (IntKind.wrap IntKind.i64 (n2 + (1 : Int))) h3 < μ1 n2 h3))
              (R (Value.bool true) h3))
theorem C_ref01_Same (a : Option Addr) (a_l : Nat) (a_c : Nat) (b : Option Addr) (b_l : Nat) (b_c : Nat) {h : Heap} {R : Value → Heap → Prop} (H : F_ref01_Same a a_l a_c b b_l b_c h R) : CallsH Try.prog n_ref01_Same [(.slice a a_l a_c), (.slice b b_l b_c)].toArray h R :=
  fn_sound (A := A_ref01_Same) (Eq.mp (by kernel_rfl : F_ref01_Same a a_l a_c b b_l b_c h R = fnVc Go.Proofs.Try.prog A_ref01_Same 12 [(.slice a a_l a_c), (.slice b b_l b_c)] h R) H)

end Go.Proofs.Ytkeggnfffnodmaa
