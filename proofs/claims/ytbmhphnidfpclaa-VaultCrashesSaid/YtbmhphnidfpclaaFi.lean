/- The formulas of some functions, and that each is what its code comes to. Written by a program of ours. -/
import Derived.Test.YtbmhphnidfpclaaV
import Derived.Test.YtbmhphnidfpclaaNm
import Derived.Test.YtbmhphnidfpclaaProg
import Derived.KernelRfl
set_option linter.unusedVariables false
set_option maxRecDepth 100000
namespace Go.Proofs.Ytbmhphnidfpclaa
open Go Go.Vc Go.Proofs

/- rolodex/rolodexlaw10.VaultReplaces -/
def A_law10_VaultReplaces : Ann := { qs := [6, 7, 12, 13, 14, 15, 17, 18, 20, 21, 22, 23, 25, 26, 32, 33, 34, 35, 36, 37, 40, 42, 43, 44, 45, 46, 50, 51, 54, 56, 59, 60, 63, 66, 70], loops := [(7, [(8, .slice), (9, (.int .i64))]), (11, [(10, (.int .i64)), (11, .bool), (12, (.int .i64))])], cuts := [(3, []), (18, []), (20, [(8, .slice)])] }
def F_law10_VaultReplaces (l : Option Addr) (l_l : Nat) (l_c : Nat) (h : Heap) (R : Value → Heap → Prop) : Prop :=
  ∃ (J0 : PUnit → Heap → Prop),
  (CallsH Try.prog n_law10_awake #[] h fun (v1 : Value) (h2 : Heap) =>
      Ext h h2 ∧
        ∃ (t3 : Bool),
          v1 = Value.bool t3 ∧
            br (!t3) (CallsH Try.prog n_law10_awake #[] h2 fun (v4 : Value) (h5 : Heap) => Ext h2 h5 ∧ ∃ (t6 : Bool), v4 = Value.bool t6 ∧ R (Value.bool t6) h5)
              (CallsH Try.prog n_law10_Few #[Value.slice l l_l l_c, Value.int IntKind.i64 (10 : Int)] h2 fun (v7 : Value) (h8 : Heap) =>
                Ext h2 h8 ∧
                  ∃ (t9 : Bool),
                    v7 = Value.bool t9 ∧
                      br (!t9) (CallsH Try.prog n_law10_awake #[] h8 fun (v10 : Value) (h11 : Heap) => Ext h8 h11 ∧ ∃ (t12 : Bool), v10 = Value.bool t12 ∧ R (Value.bool t12) h11) (J0 () h8))) ∧
    ∀ (x13 : PUnit) (h14 : Heap),
      J0 x13 h14 →
        CallsH Try.prog n_device_New #[Value.int IntKind.i64 (30 : Int)] h14 fun (v15 : Value) (h16 : Heap) =>
          Ext h14 h16 ∧
            ∃ (p17 : Option Addr),
              ∃ (n18 : Int),
                v15 = Value.tuple #[Value.pointer p17, Value.int IntKind.i64 n18] ∧
                  CallsH Try.prog n_vault_Open #[Value.pointer p17] h16 fun (v19 : Value) (h20 : Heap) =>
                    ∃ (p21 : Option Addr),
                      ∃ (p22 : Option Addr),
                        ∃ (l23 : Nat),
                          ∃ (c24 : Nat),
                            ∃ (n25 : Int),
                              v19 = Value.tuple #[Value.pointer p21, Value.slice p22 l23 c24, Value.int IntKind.i64 n25] ∧
                                ∃ (I26 : (Option Addr × Nat × Nat) × Int → Heap → Prop),
                                  ∃ (μ27 : (Option Addr × Nat × Nat) × Int → Heap → Nat),
                                    I26 ((none, (0 : Nat), (0 : Nat)), (0 : Int)) h20 ∧
                                      ∀ (s28 : (Option Addr × Nat × Nat) × Int) (h29 : Heap),
                                        I26 s28 h29 →
                                          br (decide (Prod.snd s28 < (↑l_l : Int)))
                                            (∃ (I30 : Int × Bool × Int → Heap → Prop),
                                              ∃ (μ31 : Int × Bool × Int → Heap → Nat),
                                                I30 ((0 : Int), false, (0 : Int)) h29 ∧
                                                  ∀ (s32 : Int × Bool × Int) (h33 : Heap),
                                                    I30 s32 h33 →
                                                      (0 : Int) ≤ Prod.snd s28 ∧
                                                        Prod.snd s28 < (↑l_l : Int) ∧
                                                          deref l fun (a34 : Addr) =>
                                                            ∃ (p35 : Option Addr),
                                                              ∃ (l36 : Nat),
                                                                ∃ (c37 : Nat),
                                                                  cell h33 (Addr.add (Addr.add a34 (Int.toNat (Prod.snd s28) * (4 : Nat))) (2 : Nat)) = some (Value.slice p35 l36 c37) ∧
                                                                    br (decide (Prod.snd (Prod.snd s32) < (↑l36 : Int)))
                                                                      ((0 : Int) ≤ Prod.snd s28 ∧
                                                                        Prod.snd s28 < (↑l_l : Int) ∧
                                                                          deref l fun (a38 : Addr) =>
                                                                            ∃ (p39 : Option Addr),
                                                                              ∃ (l40 : Nat),
                                                                                ∃ (c41 : Nat),
                                                                                  cell h33 (Addr.add (Addr.add a38 (Int.toNat (Prod.snd s28) * (4 : Nat))) (2 : Nat)) = some (Value.slice p39 l40 c41) ∧
                                                                                    (0 : Int) ≤ Prod.snd (Prod.snd s32) ∧
                                                                                      Prod.snd (Prod.snd s32) < (↑l40 : Int) ∧
                                                                                        deref p39 fun (a42 : Addr) =>
                                                                                          ∃ (p43 : Option Addr),
                                                                                            ∃ (l44 : Nat),
                                                                                              ∃ (c45 : Nat),
                                                                                                cell h33 (Addr.add a42 (Int.toNat (Prod.snd (Prod.snd s32)) * (1 : Nat))) =
                                                                                                    some (Value.slice p43 l44 c45) ∧
                                                                                                  CallsH Try.prog n_ref09_Parts #[Value.int IntKind.i64 (↑l44 : Int)] h33 fun (v46 : Value) (h47 : Heap) =>
                                                                                                    Ext h33 h47 ∧
                                                                                                      ∃ (n48 : Int),
                                                                                                        v46 = Value.int IntKind.i64 n48 ∧
                                                                                                          br (Prod.fst (Prod.snd s32))
                                                                                                            (I30
                                                                                                                (IntKind.wrap IntKind.i64 (Prod.fst s32 + n48), true,
                                                                                                                  IntKind.wrap IntKind.i64 (Prod.snd (Prod.snd s32) + (1 : Int)))
                                                                                                                h47 ∧
                                                                                                              μ31
                                                                                                                  (IntKind.wrap IntKind.i64 (Prod.fst s32 + n48), true,
                                                                                                                    IntKind.wrap IntKind.i64 (Prod.snd (Prod.snd s32) + (1 : Int)))
                                                                                                                  h47 <
                                                                                                                μ31 s32 h33)
                                                                                                            ((0 : Int) ≤ Prod.snd s28 ∧
                                                                                                              Prod.snd s28 < (↑l_l : Int) ∧
                                                                                                                deref l fun (a49 : Addr) =>
                                                                                                                  ∃ (p50 : Option Addr),
                                                                                                                    ∃ (l51 : Nat),
                                                                                                                      ∃ (c52 : Nat),
                                                                                                                        cell h47
                                                                                                                              (Addr.add (Addr.add a49 (Int.toNat (Prod.snd s28) * (4 : Nat)))
                                                                                                                                (2 : Nat)) =
                                                                                                                            some (Value.slice p50 l51 c52) ∧
                                                                                                                          (0 : Int) ≤ Prod.snd (Prod.snd s32) ∧
                                                                                                                            Prod.snd (Prod.snd s32) < (↑l51 : Int) ∧
                                                                                                                              deref p50 fun (a53 : Addr) =>
                                                                                                                                ∃ (p54 : Option Addr),
                                                                                                                                  ∃ (l55 : Nat),
                                                                                                                                    ∃ (c56 : Nat),
                                                                                                                                      cell h47
                                                                                                                                            (Addr.add a53
                                                                                                                                              (Int.toNat (Prod.snd (Prod.snd s32)) * (1 : Nat))) =
                                                                                                                                          some (Value.slice p54 l55 c56) ∧
                                                                                                                                        I30
                                                                                                                                            (IntKind.wrap IntKind.i64 (Prod.fst s32 + n48),
                                                                                                                                              decide ((↑l55 : Int) > (6000 : Int)),
                                                                                                                                              IntKind.wrap IntKind.i64
                                                                                                                                                (Prod.snd (Prod.snd s32) + (1 : Int)))
                                                                                                                                            h47 ∧
                                                                                                                                          μ31
                                                                                                                                              (IntKind.wrap IntKind.i64 (Prod.fst s32 + n48),
                                                                                                                                                decide ((↑l55 : Int) > (6000 : Int)),
                                                                                                                                                IntKind.wrap IntKind.i64
                                                                                                                                                  (Prod.snd (Prod.snd s32) + (1 : Int)))
                                                                                                                                              h47 <
                                                                                                                                            μ31 s32 h33))
                                                                      ((0 : Int) ≤ Prod.snd s28 ∧
                                                                        Prod.snd s28 < (↑l_l : Int) ∧
                                                                          deref l fun (a57 : Addr) =>
                                                                            ∃ (p58 : Option Addr),
                                                                              ∃ (l59 : Nat),
                                                                                ∃ (c60 : Nat),
                                                                                  cell h33 (Addr.add (Addr.add a57 (Int.toNat (Prod.snd s28) * (4 : Nat))) (2 : Nat)) = some (Value.slice p58 l59 c60) ∧
                                                                                    CallsH Try.prog n_vault_Vault_Replace #[Value.pointer p21, Value.slice p58 l59 c60] h33 fun (v61 : Value) (h62 : Heap) =>
                                                                                      ∃ (n63 : Int),
                                                                                        v61 = Value.int IntKind.i64 n63 ∧
                                                                                          ∃ (J64 : PUnit → Heap → Prop),
                                                                                            br (!(n63 == (3 : Int)) == Prod.fst (Prod.snd s32)) (R (Value.bool false) h62)
                                                                                                (br (!Prod.fst (Prod.snd s32))
                                                                                                  (br (!(n63 == (5 : Int)) == decide (Prod.fst s32 > (14 : Int))) (R (Value.bool false) h62)
                                                                                                    (J64 () h62))
                                                                                                  (J64 () h62)) ∧
                                                                                              ∀ (x65 : PUnit) (h66 : Heap),
                                                                                                J64 x65 h66 →
                                                                                                  ∃ (J67 : Option Addr × Nat × Nat → Heap → Prop),
                                                                                                    br (n63 == (0 : Int))
                                                                                                        (newBlk h66 (22 : Nat) #[] fun (b68 : Nat) (h69 : Heap) =>
                                                                                                          (0 : Int) ≤ Prod.snd s28 ∧
                                                                                                            Prod.snd s28 < (↑l_l : Int) ∧
                                                                                                              deref l fun (a70 : Addr) =>
                                                                                                                ∃ (p71 : Option Addr),
                                                                                                                  ∃ (l72 : Nat),
                                                                                                                    ∃ (c73 : Nat),
                                                                                                                      cell h69
                                                                                                                            (Addr.add (Addr.add a70 (Int.toNat (Prod.snd s28) * (4 : Nat))) (2 : Nat)) =
                                                                                                                          some (Value.slice p71 l72 c73) ∧
                                                                                                                        appendP (22 : Nat) (1 : Nat) (24 : Nat) #[Value.slice none (0 : Nat) (0 : Nat)]
                                                                                                                          (some (Addr.mk b68 (0 : Nat) none)) (0 : Nat) (0 : Nat) p71 l72 h69
                                                                                                                          fun (p74 : Option Addr) (l75 c76 : Nat) (h77 : Heap) =>
                                                                                                                          J67 (p74, l75, c76) h77)
                                                                                                        (J67
                                                                                                          (Prod.fst (Prod.fst s28), Prod.fst (Prod.snd (Prod.fst s28)),
                                                                                                            Prod.snd (Prod.snd (Prod.fst s28)))
                                                                                                          h66) ∧
                                                                                                      ∀ (s78 : Option Addr × Nat × Nat) (h79 : Heap),
                                                                                                        J67 s78 h79 →
                                                                                                          newBlk h79 (5 : Nat) #[Value.int IntKind.u8 (IntKind.wrap IntKind.u8 (Prod.snd s28))]
                                                                                                            fun (b80 : Nat) (h81 : Heap) =>
                                                                                                            CallsH Try.prog n_vault_Vault_Append
                                                                                                              #[Value.pointer p21, Value.slice (some (Addr.mk b80 (0 : Nat) none)) (1 : Nat) (1 : Nat)]
                                                                                                              h81 fun (v82 : Value) (h83 : Heap) =>
                                                                                                              ∃ (n84 : Int),
                                                                                                                v82 = Value.int IntKind.i64 n84 ∧
                                                                                                                  br (n84 == (0 : Int))
                                                                                                                    (newBlk h83 (22 : Nat) #[] fun (b85 : Nat) (h86 : Heap) =>
                                                                                                                      appendP (22 : Nat) (1 : Nat) (24 : Nat) #[Value.slice none (0 : Nat) (0 : Nat)]
                                                                                                                        (some (Addr.mk b85 (0 : Nat) none)) (0 : Nat) (0 : Nat) (Prod.fst s78)
                                                                                                                        (Prod.fst (Prod.snd s78)) h86
                                                                                                                        fun (p87 : Option Addr) (l88 c89 : Nat) (h90 : Heap) =>
                                                                                                                        newBlk h90 (5 : Nat)
                                                                                                                          #[Value.int IntKind.u8 (IntKind.wrap IntKind.u8 (Prod.snd s28))]
                                                                                                                          fun (b91 : Nat) (h92 : Heap) =>
                                                                                                                          newBlk h92 (22 : Nat)
                                                                                                                            #[Value.slice (some (Addr.mk b91 (0 : Nat) none)) (1 : Nat) (1 : Nat)]
                                                                                                                            fun (b93 : Nat) (h94 : Heap) =>
                                                                                                                            appendP (22 : Nat) (1 : Nat) (24 : Nat)
                                                                                                                              #[Value.slice none (0 : Nat) (0 : Nat)] p87 l88 c89
                                                                                                                              (some (Addr.mk b93 (0 : Nat) none)) (1 : Nat) h94
                                                                                                                              fun (p95 : Option Addr) (l96 c97 : Nat) (h98 : Heap) =>
                                                                                                                              I26 ((p95, l96, c97), IntKind.wrap IntKind.i64 (Prod.snd s28 + (1 : Int)))
                                                                                                                                  h98 ∧
                                                                                                                                μ27
                                                                                                                                    ((p95, l96, c97),
                                                                                                                                      IntKind.wrap IntKind.i64 (Prod.snd s28 + (1 : Int)))
                                                                                                                                    h98 <
                                                                                                                                  μ27 s28 h29)
                                                                                                                    (I26
                                                                                                                        ((Prod.fst s78, Prod.fst (Prod.snd s78), Prod.snd (Prod.snd s78)),
                                                                                                                          IntKind.wrap IntKind.i64 (Prod.snd s28 + (1 : Int)))
                                                                                                                        h83 ∧
                                                                                                                      μ27
                                                                                                                          ((Prod.fst s78, Prod.fst (Prod.snd s78), Prod.snd (Prod.snd s78)),
                                                                                                                            IntKind.wrap IntKind.i64 (Prod.snd s28 + (1 : Int)))
                                                                                                                          h83 <
                                                                                                                        μ27 s28 h29)))
                                            (CallsH Try.prog n_vault_Vault_Flush #[Value.pointer p21] h29 fun (v99 : Value) (h100 : Heap) =>
                                              ∃ (n101 : Int),
                                                v99 = Value.int IntKind.i64 n101 ∧
                                                  br (n101 != (0 : Int)) (R (Value.bool false) h100)
                                                    (CallsH Try.prog n_device_Device_Restart #[Value.pointer p17, Value.slice none (0 : Nat) (0 : Nat)] h100 fun (v102 : Value) (h103 : Heap) =>
                                                      v102 = Value.tuple #[] ∧
                                                        CallsH Try.prog n_vault_Open #[Value.pointer p17] h103 fun (v104 : Value) (h105 : Heap) =>
                                                          ∃ (p106 : Option Addr),
                                                            ∃ (p107 : Option Addr),
                                                              ∃ (l108 : Nat),
                                                                ∃ (c109 : Nat),
                                                                  ∃ (n110 : Int),
                                                                    v104 = Value.tuple #[Value.pointer p106, Value.slice p107 l108 c109, Value.int IntKind.i64 n110] ∧
                                                                      br (n110 == (0 : Int))
                                                                        (CallsH Try.prog n_ref02_Same
                                                                          #[Value.slice p107 l108 c109,
                                                                            Value.slice (Prod.fst (Prod.fst s28)) (Prod.fst (Prod.snd (Prod.fst s28))) (Prod.snd (Prod.snd (Prod.fst s28)))]
                                                                          h105 fun (v111 : Value) (h112 : Heap) => Ext h105 h112 ∧ ∃ (t113 : Bool), v111 = Value.bool t113 ∧ R (Value.bool t113) h112)
                                                                        (R (Value.bool false) h105)))
theorem C_law10_VaultReplaces (l : Option Addr) (l_l : Nat) (l_c : Nat) {h : Heap} {R : Value → Heap → Prop} (H : F_law10_VaultReplaces l l_l l_c h R) : CallsH Try.prog n_law10_VaultReplaces [(.slice l l_l l_c)].toArray h R :=
  fn_sound (A := A_law10_VaultReplaces) (Eq.mp (by kernel_rfl : F_law10_VaultReplaces l l_l l_c h R = fnVc Go.Proofs.Try.prog A_law10_VaultReplaces 4 [(.slice l l_l l_c)] h R) H)

end Go.Proofs.Ytbmhphnidfpclaa
