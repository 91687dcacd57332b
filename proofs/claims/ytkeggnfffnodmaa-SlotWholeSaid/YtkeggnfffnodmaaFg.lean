/- The formulas of some functions, and that each is what its code comes to. Written by a program of ours. -/
import Derived.Test.YtkeggnfffnodmaaVcO
import Derived.Test.YtkeggnfffnodmaaNm
import Derived.Test.YtkeggnfffnodmaaProg
import Derived.KernelRfl
set_option linter.unusedVariables false
set_option maxRecDepth 100000
namespace Go.Proofs.Ytkeggnfffnodmaa
open Go Go.Vc Go.Proofs

/- rolodex/slot.encode -/
def A_slot_encode : Ann := { qs := [8, 9, 11, 12, 13, 15, 16, 25, 26, 27, 28, 29, 30, 32, 33, 35, 36, 40, 41, 44, 46, 47, 51, 52] }
def F_slot_encode (serial : Int) (value : Option Addr) (value_l : Nat) (value_c : Nat) (h : Heap) (R : Value → Heap → Prop) : Prop :=
  newBlk h (78 : Nat) #[Value.slice none (0 : Nat) (0 : Nat), Value.bool false] fun (b0 : Nat) (h1 : Heap) =>
  CallsH Try.prog n_wire_Writer_U64 #[Value.pointer (some (Addr.mk b0 (0 : Nat) none)), Value.int IntKind.u64 serial] h1 fun (v2 : Value) (h3 : Heap) =>
    v2 = Value.tuple #[] ∧
      CallsH Try.prog n_wire_Writer_String #[Value.pointer (some (Addr.mk b0 (0 : Nat) none)), Value.slice value value_l value_c] h3 fun (v4 : Value) (h5 : Heap) =>
        v4 = Value.tuple #[] ∧
          makeP (5 : Nat) (1 : Nat) (1 : Nat) #[Value.int IntKind.u8 (0 : Int)] (IntKind.wrap IntKind.i64 ((110 : Int) - (↑value_l : Int))) (IntKind.wrap IntKind.i64 ((110 : Int) - (↑value_l : Int)))
            h5 fun (b6 : Nat) (h7 : Heap) =>
            CallsH Try.prog n_wire_Writer_Plain
              #[Value.pointer (some (Addr.mk b0 (0 : Nat) none)),
                Value.slice (some (Addr.mk b6 (0 : Nat) none)) (Int.toNat (IntKind.wrap IntKind.i64 ((110 : Int) - (↑value_l : Int))))
                  (Int.toNat (IntKind.wrap IntKind.i64 ((110 : Int) - (↑value_l : Int))))]
              h7 fun (v8 : Value) (h9 : Heap) =>
              v8 = Value.tuple #[] ∧
                CallsH Try.prog n_wire_Writer_U64 #[Value.pointer (some (Addr.mk b0 (0 : Nat) none)), Value.int IntKind.u64 serial] h9 fun (v10 : Value) (h11 : Heap) =>
                  v10 = Value.tuple #[] ∧
                    CallsH Try.prog n_wire_Writer_Out #[Value.pointer (some (Addr.mk b0 (0 : Nat) none))] h11 fun (v12 : Value) (h13 : Heap) =>
                      Ext h11 h13 ∧
                        ∃ (p14 : Option Addr),
                          ∃ (l15 : Nat),
                            ∃ (c16 : Nat),
                              ∃ (n17 : Int), v12 = Value.tuple #[Value.slice p14 l15 c16, Value.int IntKind.i64 n17] ∧ R (Value.tuple #[Value.slice p14 l15 c16, Value.int IntKind.i64 n17]) h13
theorem C_slot_encode (serial : Int) (value : Option Addr) (value_l : Nat) (value_c : Nat) {h : Heap} {R : Value → Heap → Prop} (H : F_slot_encode serial value value_l value_c h R) : CallsH Try.prog n_slot_encode [(.int .u64 serial), (.slice value value_l value_c)].toArray h R :=
  fn_sound (A := A_slot_encode) (Eq.mp (by kernel_rfl : F_slot_encode serial value value_l value_c h R = fnVc Go.Proofs.Try.prog A_slot_encode 27 [(.int .u64 serial), (.slice value value_l value_c)] h R) H)

/- rolodex/slot.decode -/
def A_slot_decode : Ann := { qs := [8, 9, 11, 12, 13, 15, 16, 25, 26, 27, 28, 29, 30, 32, 33, 35, 36, 40, 41, 44, 46, 47, 51, 52] }
def F_slot_decode (b : Option Addr) (b_l : Nat) (b_c : Nat) (h : Heap) (R : Value → Heap → Prop) : Prop :=
  CallsH Try.prog n_wire_New #[Value.slice b b_l b_c] h fun (v0 : Value) (h1 : Heap) =>
  Ext h h1 ∧
    ∃ (p2 : Option Addr),
      v0 = Value.pointer p2 ∧
        CallsH Try.prog n_wire_Reader_U64 #[Value.pointer p2] h1 fun (v3 : Value) (h4 : Heap) =>
          ∃ (n5 : Int),
            v3 = Value.int IntKind.u64 n5 ∧
              CallsH Try.prog n_wire_Reader_String #[Value.pointer p2, Value.int IntKind.i64 (110 : Int)] h4 fun (v6 : Value) (h7 : Heap) =>
                ∃ (p8 : Option Addr),
                  ∃ (l9 : Nat),
                    ∃ (c10 : Nat),
                      v6 = Value.slice p8 l9 c10 ∧
                        CallsH Try.prog n_wire_Reader_Fails #[Value.pointer p2] h7 fun (v11 : Value) (h12 : Heap) =>
                          Ext h7 h12 ∧
                            ∃ (t13 : Bool),
                              v11 = Value.bool t13 ∧
                                br t13 (R (Value.tuple #[Value.int IntKind.u64 (0 : Int), Value.slice none (0 : Nat) (0 : Nat), Value.bool false]) h12)
                                  (CallsH Try.prog n_wire_Reader_Plain #[Value.pointer p2, Value.int IntKind.i64 (IntKind.wrap IntKind.i64 ((110 : Int) - (↑l9 : Int)))] h12 fun (v14 : Value) (h15 : Heap) =>
                                    ∃ (p16 : Option Addr),
                                      ∃ (l17 : Nat),
                                        ∃ (c18 : Nat),
                                          v14 = Value.slice p16 l17 c18 ∧
                                            CallsH Try.prog n_wire_Reader_U64 #[Value.pointer p2] h15 fun (v19 : Value) (h20 : Heap) =>
                                              ∃ (n21 : Int),
                                                v19 = Value.int IntKind.u64 n21 ∧
                                                  br (n21 == n5)
                                                    (br (n5 != (0 : Int))
                                                      (CallsH Try.prog n_wire_Reader_Done #[Value.pointer p2] h20 fun (v22 : Value) (h23 : Heap) =>
                                                        Ext h20 h23 ∧ ∃ (t24 : Bool), v22 = Value.bool t24 ∧ R (Value.tuple #[Value.int IntKind.u64 n5, Value.slice p8 l9 c10, Value.bool t24]) h23)
                                                      (R (Value.tuple #[Value.int IntKind.u64 n5, Value.slice p8 l9 c10, Value.bool false]) h20))
                                                    (R (Value.tuple #[Value.int IntKind.u64 n5, Value.slice p8 l9 c10, Value.bool false]) h20))
theorem C_slot_decode (b : Option Addr) (b_l : Nat) (b_c : Nat) {h : Heap} {R : Value → Heap → Prop} (H : F_slot_decode b b_l b_c h R) : CallsH Try.prog n_slot_decode [(.slice b b_l b_c)].toArray h R :=
  fn_sound (A := A_slot_decode) (Eq.mp (by kernel_rfl : F_slot_decode b b_l b_c h R = fnVc Go.Proofs.Try.prog A_slot_decode 28 [(.slice b b_l b_c)] h R) H)

/- rolodex/slot.Load -/
def A_slot_Load : Ann := { qs := [8, 9, 11, 12, 13, 15, 16, 25, 26, 27, 28, 29, 30, 32, 33, 35, 36, 40, 41, 44, 46, 47, 51, 52], loops := [(6, [(7, (.int .u64)), (8, .slice), (17, (.int .i64))])] }
def F_slot_Load (d : Option Addr) (at_ : Int) (h : Heap) (R : Value → Heap → Prop) : Prop :=
  br (Option.isNone d) (R (Value.tuple #[Value.int IntKind.u64 (0 : Int), Value.slice none (0 : Nat) (0 : Nat), Value.int IntKind.i64 (1 : Int)]) h)
  (∃ (I0 : Int × (Option Addr × Nat × Nat) × Int → Heap → Prop),
    ∃ (μ1 : Int × (Option Addr × Nat × Nat) × Int → Heap → Nat),
      I0 ((0 : Int), (none, (0 : Nat), (0 : Nat)), (0 : Int)) h ∧
        ∀ (s2 : Int × (Option Addr × Nat × Nat) × Int) (h3 : Heap),
          I0 s2 h3 →
            br (decide (Prod.snd (Prod.snd s2) < (2 : Int)))
              (CallsH Try.prog n_device_Device_Read #[Value.pointer d, Value.int IntKind.i64 (IntKind.wrap IntKind.i64 (at_ + Prod.snd (Prod.snd s2)))] h3 fun (v4 : Value) (h5 : Heap) =>
                Ext h3 h5 ∧
                  ∃ (p6 : Option Addr),
                    ∃ (l7 : Nat),
                      ∃ (c8 : Nat),
                        ∃ (n9 : Int),
                          v4 = Value.tuple #[Value.slice p6 l7 c8, Value.int IntKind.i64 n9] ∧
                            br (n9 != (0 : Int)) (R (Value.tuple #[Value.int IntKind.u64 (0 : Int), Value.slice none (0 : Nat) (0 : Nat), Value.int IntKind.i64 n9]) h5)
                              (CallsH Try.prog n_slot_decode #[Value.slice p6 l7 c8] h5 fun (v10 : Value) (h11 : Heap) =>
                                Ext h5 h11 ∧
                                  ∃ (n12 : Int),
                                    ∃ (p13 : Option Addr),
                                      ∃ (l14 : Nat),
                                        ∃ (c15 : Nat),
                                          ∃ (t16 : Bool),
                                            v10 = Value.tuple #[Value.int IntKind.u64 n12, Value.slice p13 l14 c15, Value.bool t16] ∧
                                              br t16
                                                ((2 : Int) ≠ (0 : Int) ∧
                                                  br (Int.tmod n12 (2 : Int) == IntKind.wrap IntKind.u64 (Prod.snd (Prod.snd s2)))
                                                    (br (decide (n12 > Prod.fst s2))
                                                      (I0 (n12, (p13, l14, c15), IntKind.wrap IntKind.i64 (Prod.snd (Prod.snd s2) + (1 : Int))) h11 ∧
                                                        μ1 (n12, (p13, l14, c15), IntKind.wrap IntKind.i64 (Prod.snd (Prod.snd s2) + (1 : Int))) h11 < μ1 s2 h3)
                                                      (I0
                                                          (Prod.fst s2, (Prod.fst (Prod.fst (Prod.snd s2)), Prod.fst (Prod.snd (Prod.fst (Prod.snd s2))), Prod.snd (Prod.snd (Prod.fst (Prod.snd s2)))),
                                                            IntKind.wrap IntKind.i64 (Prod.snd (Prod.snd s2) + (1 : Int)))
                                                          h11 ∧
                                                        μ1
                                                            (Prod.fst s2,
                                                              (Prod.fst (Prod.fst (Prod.snd s2)), Prod.fst (Prod.snd (Prod.fst (Prod.snd s2))), Prod.snd (Prod.snd (Prod.fst (Prod.snd s2)))),
                                                              IntKind.wrap IntKind.i64 (Prod.snd (Prod.snd s2) + (1 : Int)))
                                                            h11 <
                                                          μ1 s2 h3))
                                                    (I0
                                                        (Prod.fst s2, (Prod.fst (Prod.fst (Prod.snd s2)), Prod.fst (Prod.snd (Prod.fst (Prod.snd s2))), Prod.snd (Prod.snd (Prod.fst (Prod.snd s2)))),
                                                          IntKind.wrap IntKind.i64 (Prod.snd (Prod.snd s2) + (1 : Int)))
                                                        h11 ∧
                                                      μ1
                                                          (Prod.fst s2, (Prod.fst (Prod.fst (Prod.snd s2)), Prod.fst (Prod.snd (Prod.fst (Prod.snd s2))), Prod.snd (Prod.snd (Prod.fst (Prod.snd s2)))),
                                                            IntKind.wrap IntKind.i64 (Prod.snd (Prod.snd s2) + (1 : Int)))
                                                          h11 <
                                                        μ1 s2 h3))
                                                (I0
                                                    (Prod.fst s2, (Prod.fst (Prod.fst (Prod.snd s2)), Prod.fst (Prod.snd (Prod.fst (Prod.snd s2))), Prod.snd (Prod.snd (Prod.fst (Prod.snd s2)))),
                                                      IntKind.wrap IntKind.i64 (Prod.snd (Prod.snd s2) + (1 : Int)))
                                                    h11 ∧
                                                  μ1
                                                      (Prod.fst s2, (Prod.fst (Prod.fst (Prod.snd s2)), Prod.fst (Prod.snd (Prod.fst (Prod.snd s2))), Prod.snd (Prod.snd (Prod.fst (Prod.snd s2)))),
                                                        IntKind.wrap IntKind.i64 (Prod.snd (Prod.snd s2) + (1 : Int)))
                                                      h11 <
                                                    μ1 s2 h3)))
              (R
                (Value.tuple
                  #[Value.int IntKind.u64 (Prod.fst s2), Value.slice (Prod.fst (Prod.fst (Prod.snd s2))) (Prod.fst (Prod.snd (Prod.fst (Prod.snd s2)))) (Prod.snd (Prod.snd (Prod.fst (Prod.snd s2)))),
                    Value.int IntKind.i64 (0 : Int)])
                h3))
theorem C_slot_Load (d : Option Addr) (at_ : Int) {h : Heap} {R : Value → Heap → Prop} (H : F_slot_Load d at_ h R) : CallsH Try.prog n_slot_Load [(.pointer d), (.int .i64 at_)].toArray h R :=
  fn_sound (A := A_slot_Load) (Eq.mp (by kernel_rfl : F_slot_Load d at_ h R = fnVc Go.Proofs.Try.prog A_slot_Load 11 [(.pointer d), (.int .i64 at_)] h R) H)

/- rolodex/slot.Save -/
def A_slot_Save : Ann := { qs := [8, 9, 11, 12, 13, 15, 16, 25, 26, 27, 28, 29, 30, 32, 33, 35, 36, 40, 41, 44, 46, 47, 51, 52] }
def F_slot_Save (d : Option Addr) (at_ : Int) (value : Option Addr) (value_l : Nat) (value_c : Nat) (h : Heap) (R : Value → Heap → Prop) : Prop :=
  br (Option.isNone d) (R (Value.tuple #[Value.int IntKind.u64 (0 : Int), Value.int IntKind.i64 (1 : Int)]) h)
  (br (decide ((↑value_l : Int) > (110 : Int))) (R (Value.tuple #[Value.int IntKind.u64 (0 : Int), Value.int IntKind.i64 (3 : Int)]) h)
    (CallsH Try.prog n_slot_Load #[Value.pointer d, Value.int IntKind.i64 at_] h fun (v0 : Value) (h1 : Heap) =>
      Ext h h1 ∧
        ∃ (n2 : Int),
          ∃ (p3 : Option Addr),
            ∃ (l4 : Nat),
              ∃ (c5 : Nat),
                ∃ (n6 : Int),
                  v0 = Value.tuple #[Value.int IntKind.u64 n2, Value.slice p3 l4 c5, Value.int IntKind.i64 n6] ∧
                    br (n6 != (0 : Int)) (R (Value.tuple #[Value.int IntKind.u64 (0 : Int), Value.int IntKind.i64 n6]) h1)
                      (br (IntKind.wrap IntKind.u64 (n2 + (1 : Int)) == (0 : Int)) (R (Value.tuple #[Value.int IntKind.u64 (0 : Int), Value.int IntKind.i64 (5 : Int)]) h1)
                        (CallsH Try.prog n_slot_encode #[Value.int IntKind.u64 (IntKind.wrap IntKind.u64 (n2 + (1 : Int))), Value.slice value value_l value_c] h1 fun (v7 : Value) (h8 : Heap) =>
                          Ext h1 h8 ∧
                            ∃ (p9 : Option Addr),
                              ∃ (l10 : Nat),
                                ∃ (c11 : Nat),
                                  ∃ (n12 : Int),
                                    v7 = Value.tuple #[Value.slice p9 l10 c11, Value.int IntKind.i64 n12] ∧
                                      br (n12 != (0 : Int)) (R (Value.tuple #[Value.int IntKind.u64 (0 : Int), Value.int IntKind.i64 n12]) h8)
                                        ((2 : Int) ≠ (0 : Int) ∧
                                          CallsH Try.prog n_device_Device_Write
                                            #[Value.pointer d,
                                              Value.int IntKind.i64 (IntKind.wrap IntKind.i64 (at_ + IntKind.wrap IntKind.i64 (Int.tmod (IntKind.wrap IntKind.u64 (n2 + (1 : Int))) (2 : Int)))),
                                              Value.slice p9 l10 c11]
                                            h8 fun (v13 : Value) (h14 : Heap) =>
                                            ∃ (n15 : Int),
                                              v13 = Value.int IntKind.i64 n15 ∧
                                                br (n15 != (0 : Int)) (R (Value.tuple #[Value.int IntKind.u64 (0 : Int), Value.int IntKind.i64 n15]) h14)
                                                  (CallsH Try.prog n_device_Device_Flush #[Value.pointer d] h14 fun (v16 : Value) (h17 : Heap) =>
                                                    ∃ (n18 : Int),
                                                      v16 = Value.int IntKind.i64 n18 ∧
                                                        br (n18 != (0 : Int)) (R (Value.tuple #[Value.int IntKind.u64 (0 : Int), Value.int IntKind.i64 n18]) h17)
                                                          (R (Value.tuple #[Value.int IntKind.u64 (IntKind.wrap IntKind.u64 (n2 + (1 : Int))), Value.int IntKind.i64 (0 : Int)]) h17)))))))
theorem C_slot_Save (d : Option Addr) (at_ : Int) (value : Option Addr) (value_l : Nat) (value_c : Nat) {h : Heap} {R : Value → Heap → Prop} (H : F_slot_Save d at_ value value_l value_c h R) : CallsH Try.prog n_slot_Save [(.pointer d), (.int .i64 at_), (.slice value value_l value_c)].toArray h R :=
  fn_sound (A := A_slot_Save) (Eq.mp (by kernel_rfl : F_slot_Save d at_ value value_l value_c h R = fnVc Go.Proofs.Try.prog A_slot_Save 10 [(.pointer d), (.int .i64 at_), (.slice value value_l value_c)] h R) H)

/- rolodex/rolodexref08.Page -/
def A_ref08_Page : Ann := { qs := [8, 9, 11, 12, 13, 15, 16, 25, 26, 27, 28, 29, 30, 32, 33, 35, 36, 40, 41, 44, 46, 47, 51, 52], loops := [(4, [(5, .slice)])] }
def F_ref08_Page (serial : Int) (value : Option Addr) (value_l : Nat) (value_c : Nat) (h : Heap) (R : Value → Heap → Prop) : Prop :=
  CallsH Try.prog n_ref01_Number #[Value.int IntKind.u64 serial, Value.int IntKind.i64 (8 : Int)] h fun (v0 : Value) (h1 : Heap) =>
  Ext h h1 ∧
    ∃ (p2 : Option Addr),
      ∃ (l3 : Nat),
        ∃ (c4 : Nat),
          v0 = Value.slice p2 l3 c4 ∧
            CallsH Try.prog n_ref01_Number #[Value.int IntKind.u64 (IntKind.wrap IntKind.u64 (↑value_l : Int)), Value.int IntKind.i64 (2 : Int)] h1 fun (v5 : Value) (h6 : Heap) =>
              Ext h1 h6 ∧
                ∃ (p7 : Option Addr),
                  ∃ (l8 : Nat),
                    ∃ (c9 : Nat),
                      v5 = Value.slice p7 l8 c9 ∧
                        appendP (5 : Nat) (1 : Nat) (1 : Nat) #[Value.int IntKind.u8 (0 : Int)] p2 l3 c4 p7 l8 h6 fun (p10 : Option Addr) (l11 c12 : Nat) (h13 : Heap) =>
                          appendP (5 : Nat) (1 : Nat) (1 : Nat) #[Value.int IntKind.u8 (0 : Int)] p10 l11 c12 value value_l h13 fun (p14 : Option Addr) (l15 c16 : Nat) (h17 : Heap) =>
                            ∃ (I18 : Option Addr × Nat × Nat → Heap → Prop),
                              ∃ (μ19 : Option Addr × Nat × Nat → Heap → Nat),
                                I18 (p14, l15, c16) h17 ∧
                                  ∀ (s20 : Option Addr × Nat × Nat) (h21 : Heap),
                                    I18 s20 h21 →
                                      br (decide ((↑(Prod.fst (Prod.snd s20)) : Int) < (120 : Int)))
                                        (newBlk h21 (5 : Nat) #[Value.int IntKind.u8 (0 : Int)] fun (b22 : Nat) (h23 : Heap) =>
                                          appendP (5 : Nat) (1 : Nat) (1 : Nat) #[Value.int IntKind.u8 (0 : Int)] (Prod.fst s20) (Prod.fst (Prod.snd s20)) (Prod.snd (Prod.snd s20))
                                            (some (Addr.mk b22 (0 : Nat) none)) (1 : Nat) h23 fun (p24 : Option Addr) (l25 c26 : Nat) (h27 : Heap) =>
                                            I18 (p24, l25, c26) h27 ∧ μ19 (p24, l25, c26) h27 < μ19 s20 h21)
                                        (CallsH Try.prog n_ref01_Number #[Value.int IntKind.u64 serial, Value.int IntKind.i64 (8 : Int)] h21 fun (v28 : Value) (h29 : Heap) =>
                                          Ext h21 h29 ∧
                                            ∃ (p30 : Option Addr),
                                              ∃ (l31 : Nat),
                                                ∃ (c32 : Nat),
                                                  v28 = Value.slice p30 l31 c32 ∧
                                                    appendP (5 : Nat) (1 : Nat) (1 : Nat) #[Value.int IntKind.u8 (0 : Int)] (Prod.fst s20) (Prod.fst (Prod.snd s20)) (Prod.snd (Prod.snd s20)) p30 l31
                                                      h29 fun (p33 : Option Addr) (l34 c35 : Nat) (h36 : Heap) => R (Value.slice p33 l34 c35) h36)
theorem C_ref08_Page (serial : Int) (value : Option Addr) (value_l : Nat) (value_c : Nat) {h : Heap} {R : Value → Heap → Prop} (H : F_ref08_Page serial value value_l value_c h R) : CallsH Try.prog n_ref08_Page [(.int .u64 serial), (.slice value value_l value_c)].toArray h R :=
  fn_sound (A := A_ref08_Page) (Eq.mp (by kernel_rfl : F_ref08_Page serial value value_l value_c h R = fnVc Go.Proofs.Try.prog A_ref08_Page 33 [(.int .u64 serial), (.slice value value_l value_c)] h R) H)

/- rolodex/rolodexref08.Right -/
def A_ref08_Right : Ann := { qs := [8, 9, 11, 12, 13, 15, 16, 25, 26, 27, 28, 29, 30, 32, 33, 35, 36, 40, 41, 44, 46, 47, 51, 52], plans := [(1, (.take 0 (.take 1 (.take 3 (.take 4 (.alt 2 (.alt 5 (.take 6 (.take 7 .done)) .stop) .stop)))))), (5, (.take 0 (.take 1 (.take 2 (.take 3 (.take 4 (.take 5 (.take 6 .done))))))))] }
def F_ref08_Right (b : Option Addr) (b_l : Nat) (b_c : Nat) (i : Int) (h : Heap) (R : Value → Heap → Prop) : Prop :=
  sliceP (1 : Nat) b (0 : Int) (8 : Int) (↑b_c : Int) b_c fun (p0 : Option Addr) (l1 c2 : Nat) =>
  sliceP (1 : Nat) b (120 : Int) (128 : Int) (↑b_c : Int) b_c fun (p3 : Option Addr) (l4 c5 : Nat) =>
    CallsH Try.prog n_ref01_Value #[Value.slice p0 l1 c2] h fun (v6 : Value) (h7 : Heap) =>
      Ext h h7 ∧
        ∃ (n8 : Int),
          v6 = Value.int IntKind.u64 n8 ∧
            CallsH Try.prog n_ref01_Value #[Value.slice p3 l4 c5] h7 fun (v9 : Value) (h10 : Heap) =>
              Ext h7 h10 ∧
                ∃ (n11 : Int),
                  v9 = Value.int IntKind.u64 n11 ∧
                    sliceP (1 : Nat) b (8 : Int) (10 : Int) (↑b_c : Int) b_c fun (p12 : Option Addr) (l13 c14 : Nat) =>
                      CallsH Try.prog n_ref01_Value #[Value.slice p12 l13 c14] h10 fun (v15 : Value) (h16 : Heap) =>
                        Ext h10 h16 ∧
                          ∃ (n17 : Int),
                            v15 = Value.int IntKind.u64 n17 ∧
                              br (n8 != n11) (R (Value.tuple #[Value.int IntKind.u64 (0 : Int), Value.slice none (0 : Nat) (0 : Nat)]) h16)
                                (br (decide (n17 > (110 : Int))) (R (Value.tuple #[Value.int IntKind.u64 (0 : Int), Value.slice none (0 : Nat) (0 : Nat)]) h16)
                                  ((2 : Int) ≠ (0 : Int) ∧
                                    br (Int.tmod n8 (2 : Int) != IntKind.wrap IntKind.u64 i) (R (Value.tuple #[Value.int IntKind.u64 (0 : Int), Value.slice none (0 : Nat) (0 : Nat)]) h16)
                                      (sliceP (1 : Nat) b (10 : Int) (IntKind.wrap IntKind.u64 ((10 : Int) + n17)) (↑b_c : Int) b_c fun (p18 : Option Addr) (l19 c20 : Nat) =>
                                        R (Value.tuple #[Value.int IntKind.u64 n8, Value.slice p18 l19 c20]) h16)))
theorem C_ref08_Right (b : Option Addr) (b_l : Nat) (b_c : Nat) (i : Int) {h : Heap} {R : Value → Heap → Prop} (H : F_ref08_Right b b_l b_c i h R) : CallsH Try.prog n_ref08_Right [(.slice b b_l b_c), (.int .i64 i)].toArray h R :=
  fn_sound (A := A_ref08_Right) (Eq.mp (by kernel_rfl : F_ref08_Right b b_l b_c i h R = fnVc Go.Proofs.Try.prog A_ref08_Right 15 [(.slice b b_l b_c), (.int .i64 i)] h R) H)

/- rolodex/rolodexref08.Load -/
def A_ref08_Load : Ann := { qs := [8, 9, 11, 12, 13, 15, 16, 25, 26, 27, 28, 29, 30, 32, 33, 35, 36, 40, 41, 44, 46, 47, 51, 52] }
def F_ref08_Load (d : Option Addr) (at_ : Int) (h : Heap) (R : Value → Heap → Prop) : Prop :=
  CallsH Try.prog n_ref07_Device_Read #[Value.pointer d, Value.int IntKind.i64 at_] h fun (v0 : Value) (h1 : Heap) =>
  Ext h h1 ∧
    ∃ (p2 : Option Addr),
      ∃ (l3 : Nat),
        ∃ (c4 : Nat),
          ∃ (n5 : Int),
            v0 = Value.tuple #[Value.slice p2 l3 c4, Value.int IntKind.i64 n5] ∧
              br (n5 != (0 : Int)) (R (Value.tuple #[Value.int IntKind.u64 (0 : Int), Value.slice none (0 : Nat) (0 : Nat), Value.int IntKind.i64 n5]) h1)
                (CallsH Try.prog n_ref07_Device_Read #[Value.pointer d, Value.int IntKind.i64 (IntKind.wrap IntKind.i64 (at_ + (1 : Int)))] h1 fun (v6 : Value) (h7 : Heap) =>
                  Ext h1 h7 ∧
                    ∃ (p8 : Option Addr),
                      ∃ (l9 : Nat),
                        ∃ (c10 : Nat),
                          ∃ (n11 : Int),
                            v6 = Value.tuple #[Value.slice p8 l9 c10, Value.int IntKind.i64 n11] ∧
                              br (n11 != (0 : Int)) (R (Value.tuple #[Value.int IntKind.u64 (0 : Int), Value.slice none (0 : Nat) (0 : Nat), Value.int IntKind.i64 n11]) h7)
                                (CallsH Try.prog n_ref08_Right #[Value.slice p2 l3 c4, Value.int IntKind.i64 (0 : Int)] h7 fun (v12 : Value) (h13 : Heap) =>
                                  Ext h7 h13 ∧
                                    ∃ (n14 : Int),
                                      ∃ (p15 : Option Addr),
                                        ∃ (l16 : Nat),
                                          ∃ (c17 : Nat),
                                            v12 = Value.tuple #[Value.int IntKind.u64 n14, Value.slice p15 l16 c17] ∧
                                              CallsH Try.prog n_ref08_Right #[Value.slice p8 l9 c10, Value.int IntKind.i64 (1 : Int)] h13 fun (v18 : Value) (h19 : Heap) =>
                                                Ext h13 h19 ∧
                                                  ∃ (n20 : Int),
                                                    ∃ (p21 : Option Addr),
                                                      ∃ (l22 : Nat),
                                                        ∃ (c23 : Nat),
                                                          v18 = Value.tuple #[Value.int IntKind.u64 n20, Value.slice p21 l22 c23] ∧
                                                            br (n14 == (0 : Int))
                                                              (br (n20 == (0 : Int))
                                                                (R (Value.tuple #[Value.int IntKind.u64 (0 : Int), Value.slice none (0 : Nat) (0 : Nat), Value.int IntKind.i64 (0 : Int)]) h19)
                                                                (br (decide (n14 > n20)) (R (Value.tuple #[Value.int IntKind.u64 n14, Value.slice p15 l16 c17, Value.int IntKind.i64 (0 : Int)]) h19)
                                                                  (R (Value.tuple #[Value.int IntKind.u64 n20, Value.slice p21 l22 c23, Value.int IntKind.i64 (0 : Int)]) h19)))
                                                              (br (decide (n14 > n20)) (R (Value.tuple #[Value.int IntKind.u64 n14, Value.slice p15 l16 c17, Value.int IntKind.i64 (0 : Int)]) h19)
                                                                (R (Value.tuple #[Value.int IntKind.u64 n20, Value.slice p21 l22 c23, Value.int IntKind.i64 (0 : Int)]) h19))))
theorem C_ref08_Load (d : Option Addr) (at_ : Int) {h : Heap} {R : Value → Heap → Prop} (H : F_ref08_Load d at_ h R) : CallsH Try.prog n_ref08_Load [(.pointer d), (.int .i64 at_)].toArray h R :=
  fn_sound (A := A_ref08_Load) (Eq.mp (by kernel_rfl : F_ref08_Load d at_ h R = fnVc Go.Proofs.Try.prog A_ref08_Load 25 [(.pointer d), (.int .i64 at_)] h R) H)

/- rolodex/rolodexref08.Save -/
def A_ref08_Save : Ann := { qs := [8, 9, 11, 12, 13, 15, 16, 25, 26, 27, 28, 29, 30, 32, 33, 35, 36, 40, 41, 44, 46, 47, 51, 52] }
def F_ref08_Save (d : Option Addr) (at_ : Int) (value : Option Addr) (value_l : Nat) (value_c : Nat) (h : Heap) (R : Value → Heap → Prop) : Prop :=
  br (decide ((↑value_l : Int) > (110 : Int))) (R (Value.tuple #[Value.int IntKind.u64 (0 : Int), Value.int IntKind.i64 (3 : Int)]) h)
  (CallsH Try.prog n_ref08_Load #[Value.pointer d, Value.int IntKind.i64 at_] h fun (v0 : Value) (h1 : Heap) =>
    Ext h h1 ∧
      ∃ (n2 : Int),
        ∃ (p3 : Option Addr),
          ∃ (l4 : Nat),
            ∃ (c5 : Nat),
              ∃ (n6 : Int),
                v0 = Value.tuple #[Value.int IntKind.u64 n2, Value.slice p3 l4 c5, Value.int IntKind.i64 n6] ∧
                  br (n6 != (0 : Int)) (R (Value.tuple #[Value.int IntKind.u64 (0 : Int), Value.int IntKind.i64 n6]) h1)
                    (br (n2 == (18446744073709551615 : Int)) (R (Value.tuple #[Value.int IntKind.u64 (0 : Int), Value.int IntKind.i64 (5 : Int)]) h1)
                      ((2 : Int) ≠ (0 : Int) ∧
                        CallsH Try.prog n_ref08_Page #[Value.int IntKind.u64 (IntKind.wrap IntKind.u64 (n2 + (1 : Int))), Value.slice value value_l value_c] h1 fun (v7 : Value) (h8 : Heap) =>
                          Ext h1 h8 ∧
                            ∃ (p9 : Option Addr),
                              ∃ (l10 : Nat),
                                ∃ (c11 : Nat),
                                  v7 = Value.slice p9 l10 c11 ∧
                                    CallsH Try.prog n_ref07_Device_Write
                                      #[Value.pointer d,
                                        Value.int IntKind.i64 (IntKind.wrap IntKind.i64 (at_ + IntKind.wrap IntKind.i64 (Int.tmod (IntKind.wrap IntKind.u64 (n2 + (1 : Int))) (2 : Int)))),
                                        Value.slice p9 l10 c11]
                                      h8 fun (v12 : Value) (h13 : Heap) =>
                                      ∃ (n14 : Int),
                                        v12 = Value.int IntKind.i64 n14 ∧
                                          br (n14 == (0 : Int))
                                            (CallsH Try.prog n_ref07_Device_Flush #[Value.pointer d] h13 fun (v15 : Value) (h16 : Heap) =>
                                              ∃ (n17 : Int),
                                                v15 = Value.int IntKind.i64 n17 ∧
                                                  br (n17 != (0 : Int)) (R (Value.tuple #[Value.int IntKind.u64 (0 : Int), Value.int IntKind.i64 n17]) h16)
                                                    (R (Value.tuple #[Value.int IntKind.u64 (IntKind.wrap IntKind.u64 (n2 + (1 : Int))), Value.int IntKind.i64 (0 : Int)]) h16))
                                            (br (n14 != (0 : Int)) (R (Value.tuple #[Value.int IntKind.u64 (0 : Int), Value.int IntKind.i64 n14]) h13)
                                              (R (Value.tuple #[Value.int IntKind.u64 (IntKind.wrap IntKind.u64 (n2 + (1 : Int))), Value.int IntKind.i64 (0 : Int)]) h13)))))
theorem C_ref08_Save (d : Option Addr) (at_ : Int) (value : Option Addr) (value_l : Nat) (value_c : Nat) {h : Heap} {R : Value → Heap → Prop} (H : F_ref08_Save d at_ value value_l value_c h R) : CallsH Try.prog n_ref08_Save [(.pointer d), (.int .i64 at_), (.slice value value_l value_c)].toArray h R :=
  fn_sound (A := A_ref08_Save) (Eq.mp (by kernel_rfl : F_ref08_Save d at_ value value_l value_c h R = fnVc Go.Proofs.Try.prog A_ref08_Save 18 [(.pointer d), (.int .i64 at_), (.slice value value_l value_c)] h R) H)

/- rolodex/rolodexlaw08.awake -/
def A_law08_awake : Ann := { qs := [8, 9, 11, 12, 13, 15, 16, 25, 26, 27, 28, 29, 30, 32, 33, 35, 36, 40, 41, 44, 46, 47, 51, 52] }
def F_law08_awake (h : Heap) (R : Value → Heap → Prop) : Prop :=
  CallsH Try.prog n_device_New #[Value.int IntKind.i64 (2 : Int)] h fun (v0 : Value) (h1 : Heap) =>
  Ext h h1 ∧
    ∃ (p2 : Option Addr),
      ∃ (n3 : Int),
        v0 = Value.tuple #[Value.pointer p2, Value.int IntKind.i64 n3] ∧
          newBlk h1 (5 : Nat) #[Value.int IntKind.u8 (104 : Int), Value.int IntKind.u8 (105 : Int)] fun (b4 : Nat) (h5 : Heap) =>
            (∃ (b6 : TypeId),
                ∃ (b7 : Nat),
                  (match h5[Addr.block (Addr.mk b4 (0 : Nat) none)]? with
                    | some (Obj.cells c' t' frozen) => some (t', Array.size c')
                    | x => none) =
                    some (b6, b7)) ∧
              ∀ (h8 : Heap),
                h8 = markH h5 (Addr.mk b4 (0 : Nat) none) →
                  CallsH Try.prog n_slot_Save #[Value.pointer p2, Value.int IntKind.i64 (0 : Int), Value.slice (some (Addr.mk b4 (0 : Nat) none)) (2 : Nat) (2 : Nat)] h8
                    fun (v9 : Value) (h10 : Heap) =>
                    ∃ (n11 : Int),
                      ∃ (n12 : Int),
                        v9 = Value.tuple #[Value.int IntKind.u64 n11, Value.int IntKind.i64 n12] ∧
                          CallsH Try.prog n_slot_Load #[Value.pointer p2, Value.int IntKind.i64 (0 : Int)] h10 fun (v13 : Value) (h14 : Heap) =>
                            Ext h10 h14 ∧
                              ∃ (n15 : Int),
                                ∃ (p16 : Option Addr),
                                  ∃ (l17 : Nat),
                                    ∃ (c18 : Nat),
                                      ∃ (n19 : Int),
                                        v13 = Value.tuple #[Value.int IntKind.u64 n15, Value.slice p16 l17 c18, Value.int IntKind.i64 n19] ∧
                                          br (n12 == (0 : Int))
                                            (br (n19 == (0 : Int)) (br (n11 == (1 : Int)) (R (Value.bool ((↑l17 : Int) == (2 : Int))) h14) (R (Value.bool false) h14)) (R (Value.bool false) h14))
                                            (R (Value.bool false) h14)
theorem C_law08_awake {h : Heap} {R : Value → Heap → Prop} (H : F_law08_awake h R) : CallsH Try.prog n_law08_awake [].toArray h R :=
  fn_sound (A := A_law08_awake) (Eq.mp (by kernel_rfl : F_law08_awake h R = fnVc Go.Proofs.Try.prog A_law08_awake 8 [] h R) H)

/- rolodex/rolodexlaw08.few -/
def A_law08_few : Ann := { qs := [8, 9, 11, 12, 13, 15, 16, 25, 26, 27, 28, 29, 30, 32, 33, 35, 36, 40, 41, 44, 46, 47, 51, 52], loops := [(2, [(5, (.int .i64))])] }
def F_law08_few (l : Option Addr) (l_l : Nat) (l_c : Nat) (n : Int) (h : Heap) (R : Value → Heap → Prop) : Prop :=
  ∃ (I0 : Int → Heap → Prop),
  ∃ (μ1 : Int → Heap → Nat),
    I0 (0 : Int) h ∧
      ∀ (n2 : Int) (h3 : Heap),
        I0 n2 h3 →
          br (decide (n2 < (↑l_l : Int)))
            (br (decide (n2 < (200 : Int)))
              ((0 : Int) ≤ n2 ∧
                n2 < (↑l_l : Int) ∧
                  deref l fun (a4 : Addr) =>
                    ∃ (p5 : Option Addr),
                      ∃ (l6 : Nat),
                        ∃ (c7 : Nat),
                          cell h3 (Addr.add (Addr.add a4 (Int.toNat n2 * (5 : Nat))) (3 : Nat)) = some (Value.slice p5 l6 c7) ∧
                            br (decide ((↑l6 : Int) > (300 : Int))) (R (Value.bool false) h3)
                              ((0 : Int) ≤ n2 ∧
                                n2 < (↑l_l : Int) ∧
                                  deref l fun (a8 : Addr) =>
                                    ∃ (p9 : Option Addr),
                                      ∃ (l10 : Nat),
                                        ∃ (c11 : Nat),
                                          cell h3 (Addr.add (Addr.add a8 (Int.toNat n2 * (5 : Nat))) (4 : Nat)) = some (Value.slice p9 l10 c11) ∧
                                            br (decide ((↑l10 : Int) > (100 : Int))) (R (Value.bool false) h3)
                                              (I0 (IntKind.wrap IntKind.i64 (n2 + (1 : Int))) h3 ∧ μ1 (IntKind.wrap IntKind.i64 (n2 + (1 : Int))) h3 < μ1 n2 h3)))
              (R (Value.bool (decide ((↑l_l : Int) ≤ n))) h3))
            (R (Value.bool (decide ((↑l_l : Int) ≤ n))) h3)
theorem C_law08_few (l : Option Addr) (l_l : Nat) (l_c : Nat) (n : Int) {h : Heap} {R : Value → Heap → Prop} (H : F_law08_few l l_l l_c n h R) : CallsH Try.prog n_law08_few [(.slice l l_l l_c), (.int .i64 n)].toArray h R :=
  fn_sound (A := A_law08_few) (Eq.mp (by kernel_rfl : F_law08_few l l_l l_c n h R = fnVc Go.Proofs.Try.prog A_law08_few 16 [(.slice l l_l l_c), (.int .i64 n)] h R) H)

/- rolodex/rolodexlaw08.SlotNone -/
def A_law08_SlotNone : Ann := { qs := [8, 9, 11, 12, 13, 15, 16, 25, 26, 27, 28, 29, 30, 32, 33, 35, 36, 40, 41, 44, 46, 47, 51, 52] }
def F_law08_SlotNone (at_ : Int) (value : Option Addr) (value_l : Nat) (value_c : Nat) (h : Heap) (R : Value → Heap → Prop) : Prop :=
  CallsH Try.prog n_law08_awake #[] h fun (v0 : Value) (h1 : Heap) =>
  Ext h h1 ∧
    ∃ (t2 : Bool),
      v0 = Value.bool t2 ∧
        br (!t2) (CallsH Try.prog n_law08_awake #[] h1 fun (v3 : Value) (h4 : Heap) => Ext h1 h4 ∧ ∃ (t5 : Bool), v3 = Value.bool t5 ∧ R (Value.bool t5) h4)
          (br (decide ((↑value_l : Int) > (300 : Int))) (CallsH Try.prog n_law08_awake #[] h1 fun (v6 : Value) (h7 : Heap) => Ext h1 h7 ∧ ∃ (t8 : Bool), v6 = Value.bool t8 ∧ R (Value.bool t8) h7)
            (CallsH Try.prog n_slot_Load #[Value.pointer none, Value.int IntKind.i64 at_] h1 fun (v9 : Value) (h10 : Heap) =>
              Ext h1 h10 ∧
                ∃ (n11 : Int),
                  ∃ (p12 : Option Addr),
                    ∃ (l13 : Nat),
                      ∃ (c14 : Nat),
                        ∃ (n15 : Int),
                          v9 = Value.tuple #[Value.int IntKind.u64 n11, Value.slice p12 l13 c14, Value.int IntKind.i64 n15] ∧
                            CallsH Try.prog n_slot_Save #[Value.pointer none, Value.int IntKind.i64 at_, Value.slice value value_l value_c] h10 fun (v16 : Value) (h17 : Heap) =>
                              ∃ (n18 : Int),
                                ∃ (n19 : Int),
                                  v16 = Value.tuple #[Value.int IntKind.u64 n18, Value.int IntKind.i64 n19] ∧
                                    br (n15 == (1 : Int))
                                      (br (n19 == (1 : Int))
                                        (br (n11 == (0 : Int)) (br (n18 == (0 : Int)) (R (Value.bool ((↑l13 : Int) == (0 : Int))) h17) (R (Value.bool false) h17)) (R (Value.bool false) h17))
                                        (R (Value.bool false) h17))
                                      (R (Value.bool false) h17)))
theorem C_law08_SlotNone (at_ : Int) (value : Option Addr) (value_l : Nat) (value_c : Nat) {h : Heap} {R : Value → Heap → Prop} (H : F_law08_SlotNone at_ value value_l value_c h R) : CallsH Try.prog n_law08_SlotNone [(.int .i64 at_), (.slice value value_l value_c)].toArray h R :=
  fn_sound (A := A_law08_SlotNone) (Eq.mp (by kernel_rfl : F_law08_SlotNone at_ value value_l value_c h R = fnVc Go.Proofs.Try.prog A_law08_SlotNone 5 [(.int .i64 at_), (.slice value value_l value_c)] h R) H)

/- rolodex/rolodexlaw08.SlotCounts -/
def A_law08_SlotCounts : Ann := { qs := [8, 9, 11, 12, 13, 15, 16, 25, 26, 27, 28, 29, 30, 32, 33, 35, 36, 40, 41, 44, 46, 47, 51, 52], loops := [(6, [(5, (.int .u64)), (6, (.int .i64))])] }
def F_law08_SlotCounts (l : Option Addr) (l_l : Nat) (l_c : Nat) (h : Heap) (R : Value → Heap → Prop) : Prop :=
  CallsH Try.prog n_law08_awake #[] h fun (v0 : Value) (h1 : Heap) =>
  Ext h h1 ∧
    ∃ (t2 : Bool),
      v0 = Value.bool t2 ∧
        br (!t2) (CallsH Try.prog n_law08_awake #[] h1 fun (v3 : Value) (h4 : Heap) => Ext h1 h4 ∧ ∃ (t5 : Bool), v3 = Value.bool t5 ∧ R (Value.bool t5) h4)
          (br (decide ((↑l_l : Int) > (40 : Int))) (CallsH Try.prog n_law08_awake #[] h1 fun (v6 : Value) (h7 : Heap) => Ext h1 h7 ∧ ∃ (t8 : Bool), v6 = Value.bool t8 ∧ R (Value.bool t8) h7)
            (CallsH Try.prog n_device_New #[Value.int IntKind.i64 (4 : Int)] h1 fun (v9 : Value) (h10 : Heap) =>
              Ext h1 h10 ∧
                ∃ (p11 : Option Addr),
                  ∃ (n12 : Int),
                    v9 = Value.tuple #[Value.pointer p11, Value.int IntKind.i64 n12] ∧
                      ∃ (I13 : Int × Int → Heap → Prop),
                        ∃ (μ14 : Int × Int → Heap → Nat),
                          I13 ((0 : Int), (0 : Int)) h10 ∧
                            ∀ (s15 : Int × Int) (h16 : Heap),
                              I13 s15 h16 →
                                br (decide (Prod.snd s15 < (↑l_l : Int)))
                                  ((0 : Int) ≤ Prod.snd s15 ∧
                                    Prod.snd s15 < (↑l_l : Int) ∧
                                      deref l fun (a17 : Addr) =>
                                        ∃ (p18 : Option Addr),
                                          ∃ (l19 : Nat),
                                            ∃ (c20 : Nat),
                                              cell h16 (Addr.add a17 (Int.toNat (Prod.snd s15) * (1 : Nat))) = some (Value.slice p18 l19 c20) ∧
                                                br (decide ((↑l19 : Int) > (300 : Int))) (R (Value.bool true) h16)
                                                  ((0 : Int) ≤ Prod.snd s15 ∧
                                                    Prod.snd s15 < (↑l_l : Int) ∧
                                                      deref l fun (a21 : Addr) =>
                                                        ∃ (p22 : Option Addr),
                                                          ∃ (l23 : Nat),
                                                            ∃ (c24 : Nat),
                                                              cell h16 (Addr.add a21 (Int.toNat (Prod.snd s15) * (1 : Nat))) = some (Value.slice p22 l23 c24) ∧
                                                                CallsH Try.prog n_slot_Save #[Value.pointer p11, Value.int IntKind.i64 (1 : Int), Value.slice p22 l23 c24] h16
                                                                  fun (v25 : Value) (h26 : Heap) =>
                                                                  ∃ (n27 : Int),
                                                                    ∃ (n28 : Int),
                                                                      v25 = Value.tuple #[Value.int IntKind.u64 n27, Value.int IntKind.i64 n28] ∧
                                                                        (0 : Int) ≤ Prod.snd s15 ∧
                                                                          Prod.snd s15 < (↑l_l : Int) ∧
                                                                            deref l fun (a29 : Addr) =>
                                                                              ∃ (p30 : Option Addr),
                                                                                ∃ (l31 : Nat),
                                                                                  ∃ (c32 : Nat),
                                                                                    cell h26 (Addr.add a29 (Int.toNat (Prod.snd s15) * (1 : Nat))) = some (Value.slice p30 l31 c32) ∧
                                                                                      br (decide ((↑l31 : Int) > (110 : Int)))
                                                                                        (br (n28 != (3 : Int)) (R (Value.bool false) h26)
                                                                                          (br (n27 != (0 : Int)) (R (Value.bool false) h26)
                                                                                            (I13 (Prod.fst s15, IntKind.wrap IntKind.i64 (Prod.snd s15 + (1 : Int))) h26 ∧
                                                                                              μ14 (Prod.fst s15, IntKind.wrap IntKind.i64 (Prod.snd s15 + (1 : Int))) h26 < μ14 s15 h16)))
                                                                                        (CallsH Try.prog n_slot_Load #[Value.pointer p11, Value.int IntKind.i64 (1 : Int)] h26
                                                                                          fun (v33 : Value) (h34 : Heap) =>
                                                                                          Ext h26 h34 ∧
                                                                                            ∃ (n35 : Int),
                                                                                              ∃ (p36 : Option Addr),
                                                                                                ∃ (l37 : Nat),
                                                                                                  ∃ (c38 : Nat),
                                                                                                    ∃ (n39 : Int),
                                                                                                      v33 =
                                                                                                          Value.tuple #[Value.int IntKind.u64 n35, Value.slice p36 l37 c38, Value.int IntKind.i64 n39] ∧
                                                                                                        br (n28 != (0 : Int)) (R (Value.bool false) h34)
                                                                                                          (br (n39 != (0 : Int)) (R (Value.bool false) h34)
                                                                                                            (br (n27 != IntKind.wrap IntKind.u64 (Prod.fst s15 + (1 : Int))) (R (Value.bool false) h34)
                                                                                                              (br (n35 != IntKind.wrap IntKind.u64 (Prod.fst s15 + (1 : Int)))
                                                                                                                (R (Value.bool false) h34)
                                                                                                                ((0 : Int) ≤ Prod.snd s15 ∧
                                                                                                                  Prod.snd s15 < (↑l_l : Int) ∧
                                                                                                                    deref l fun (a40 : Addr) =>
                                                                                                                      ∃ (p41 : Option Addr),
                                                                                                                        ∃ (l42 : Nat),
                                                                                                                          ∃ (c43 : Nat),
                                                                                                                            cell h34 (Addr.add a40 (Int.toNat (Prod.snd s15) * (1 : Nat))) =
                                                                                                                                some (Value.slice p41 l42 c43) ∧
                                                                                                                              CallsH Try.prog n_ref01_Same
                                                                                                                                #[Value.slice p36 l37 c38, Value.slice p41 l42 c43] h34
                                                                                                                                fun (v44 : Value) (h45 : Heap) =>
                                                                                                                                Ext h34 h45 ∧
                                                                                                                                  ∃ (t46 : Bool),
                                                                                                                                    v44 = Value.bool t46 ∧
                                                                                                                                      br (!t46) (R (Value.bool false) h45)
                                                                                                                                        (I13
                                                                                                                                            (IntKind.wrap IntKind.u64 (Prod.fst s15 + (1 : Int)),
                                                                                                                                              IntKind.wrap IntKind.i64 (Prod.snd s15 + (1 : Int)))
                                                                                                                                            h45 ∧
                                                                                                                                          μ14
                                                                                                                                              (IntKind.wrap IntKind.u64 (Prod.fst s15 + (1 : Int)),
                                                                                                                                                IntKind.wrap IntKind.i64 (Prod.snd s15 + (1 : Int)))
                                                                                                                                              h45 <
                                                                                                                                            μ14 s15 h16))))))))
                                  (CallsH Try.prog n_device_Device_Read #[Value.pointer p11, Value.int IntKind.i64 (0 : Int)] h16 fun (v47 : Value) (h48 : Heap) =>
                                    Ext h16 h48 ∧
                                      ∃ (p49 : Option Addr),
                                        ∃ (l50 : Nat),
                                          ∃ (c51 : Nat),
                                            ∃ (n52 : Int),
                                              v47 = Value.tuple #[Value.slice p49 l50 c51, Value.int IntKind.i64 n52] ∧
                                                CallsH Try.prog n_device_Device_Read #[Value.pointer p11, Value.int IntKind.i64 (3 : Int)] h48 fun (v53 : Value) (h54 : Heap) =>
                                                  Ext h48 h54 ∧
                                                    ∃ (p55 : Option Addr),
                                                      ∃ (l56 : Nat),
                                                        ∃ (c57 : Nat),
                                                          ∃ (n58 : Int),
                                                            v53 = Value.tuple #[Value.slice p55 l56 c57, Value.int IntKind.i64 n58] ∧
                                                              makeP (5 : Nat) (1 : Nat) (1 : Nat) #[Value.int IntKind.u8 (0 : Int)] (128 : Int) (128 : Int) h54 fun (b59 : Nat) (h60 : Heap) =>
                                                                CallsH Try.prog n_ref01_Same #[Value.slice p49 l50 c51, Value.slice (some (Addr.mk b59 (0 : Nat) none)) (128 : Nat) (128 : Nat)] h60
                                                                  fun (v61 : Value) (h62 : Heap) =>
                                                                  Ext h60 h62 ∧
                                                                    ∃ (t63 : Bool),
                                                                      v61 = Value.bool t63 ∧
                                                                        br t63
                                                                          (makeP (5 : Nat) (1 : Nat) (1 : Nat) #[Value.int IntKind.u8 (0 : Int)] (128 : Int) (128 : Int) h62
                                                                            fun (b64 : Nat) (h65 : Heap) =>
                                                                            CallsH Try.prog n_ref01_Same
                                                                              #[Value.slice p55 l56 c57, Value.slice (some (Addr.mk b64 (0 : Nat) none)) (128 : Nat) (128 : Nat)] h65
                                                                              fun (v66 : Value) (h67 : Heap) => Ext h65 h67 ∧ ∃ (t68 : Bool), v66 = Value.bool t68 ∧ R (Value.bool t68) h67)
                                                                          (R (Value.bool false) h62))))
theorem C_law08_SlotCounts (l : Option Addr) (l_l : Nat) (l_c : Nat) {h : Heap} {R : Value → Heap → Prop} (H : F_law08_SlotCounts l l_l l_c h R) : CallsH Try.prog n_law08_SlotCounts [(.slice l l_l l_c)].toArray h R :=
  fn_sound (A := A_law08_SlotCounts) (Eq.mp (by kernel_rfl : F_law08_SlotCounts l l_l l_c h R = fnVc Go.Proofs.Try.prog A_law08_SlotCounts 3 [(.slice l l_l l_c)] h R) H)

/- rolodex/rolodexlaw08.SlotAny -/
def A_law08_SlotAny : Ann := { qs := [8, 9, 11, 12, 13, 15, 16, 25, 26, 27, 28, 29, 30, 32, 33, 35, 36, 40, 41, 44, 46, 47, 51, 52] }
def F_law08_SlotAny (a : Option Addr) (a_l : Nat) (a_c : Nat) (b : Option Addr) (b_l : Nat) (b_c : Nat) (value : Option Addr) (value_l : Nat) (value_c : Nat) (h : Heap) (R : Value → Heap → Prop) : Prop :=
  CallsH Try.prog n_law08_awake #[] h fun (v0 : Value) (h1 : Heap) =>
  Ext h h1 ∧
    ∃ (t2 : Bool),
      v0 = Value.bool t2 ∧
        br (!t2) (CallsH Try.prog n_law08_awake #[] h1 fun (v3 : Value) (h4 : Heap) => Ext h1 h4 ∧ ∃ (t5 : Bool), v3 = Value.bool t5 ∧ R (Value.bool t5) h4)
          (br ((↑a_l : Int) != (128 : Int)) (CallsH Try.prog n_law08_awake #[] h1 fun (v6 : Value) (h7 : Heap) => Ext h1 h7 ∧ ∃ (t8 : Bool), v6 = Value.bool t8 ∧ R (Value.bool t8) h7)
            (br ((↑b_l : Int) != (128 : Int)) (CallsH Try.prog n_law08_awake #[] h1 fun (v9 : Value) (h10 : Heap) => Ext h1 h10 ∧ ∃ (t11 : Bool), v9 = Value.bool t11 ∧ R (Value.bool t11) h10)
              (br (decide ((↑value_l : Int) > (110 : Int)))
                (CallsH Try.prog n_law08_awake #[] h1 fun (v12 : Value) (h13 : Heap) => Ext h1 h13 ∧ ∃ (t14 : Bool), v12 = Value.bool t14 ∧ R (Value.bool t14) h13)
                (CallsH Try.prog n_device_New #[Value.int IntKind.i64 (2 : Int)] h1 fun (v15 : Value) (h16 : Heap) =>
                  Ext h1 h16 ∧
                    ∃ (p17 : Option Addr),
                      ∃ (n18 : Int),
                        v15 = Value.tuple #[Value.pointer p17, Value.int IntKind.i64 n18] ∧
                          CallsH Try.prog n_device_Device_Write #[Value.pointer p17, Value.int IntKind.i64 (0 : Int), Value.slice a a_l a_c] h16 fun (v19 : Value) (h20 : Heap) =>
                            ∃ (n21 : Int),
                              v19 = Value.int IntKind.i64 n21 ∧
                                CallsH Try.prog n_device_Device_Write #[Value.pointer p17, Value.int IntKind.i64 (1 : Int), Value.slice b b_l b_c] h20 fun (v22 : Value) (h23 : Heap) =>
                                  ∃ (n24 : Int),
                                    v22 = Value.int IntKind.i64 n24 ∧
                                      CallsH Try.prog n_ref08_Right #[Value.slice a a_l a_c, Value.int IntKind.i64 (0 : Int)] h23 fun (v25 : Value) (h26 : Heap) =>
                                        Ext h23 h26 ∧
                                          ∃ (n27 : Int),
                                            ∃ (p28 : Option Addr),
                                              ∃ (l29 : Nat),
                                                ∃ (c30 : Nat),
                                                  v25 = Value.tuple #[Value.int IntKind.u64 n27, Value.slice p28 l29 c30] ∧
                                                    CallsH Try.prog n_ref08_Right #[Value.slice b b_l b_c, Value.int IntKind.i64 (1 : Int)] h26 fun (v31 : Value) (h32 : Heap) =>
                                                      Ext h26 h32 ∧
                                                        ∃ (n33 : Int),
                                                          ∃ (p34 : Option Addr),
                                                            ∃ (l35 : Nat),
                                                              ∃ (c36 : Nat),
                                                                v31 = Value.tuple #[Value.int IntKind.u64 n33, Value.slice p34 l35 c36] ∧
                                                                  CallsH Try.prog n_slot_Load #[Value.pointer p17, Value.int IntKind.i64 (0 : Int)] h32 fun (v37 : Value) (h38 : Heap) =>
                                                                    Ext h32 h38 ∧
                                                                      ∃ (n39 : Int),
                                                                        ∃ (p40 : Option Addr),
                                                                          ∃ (l41 : Nat),
                                                                            ∃ (c42 : Nat),
                                                                              ∃ (n43 : Int),
                                                                                v37 = Value.tuple #[Value.int IntKind.u64 n39, Value.slice p40 l41 c42, Value.int IntKind.i64 n43] ∧
                                                                                  br (decide (n27 ≤ n33))
                                                                                    (br (n43 != (0 : Int)) (R (Value.bool false) h38)
                                                                                      (br (n39 != n33) (R (Value.bool false) h38)
                                                                                        (br (decide (n33 > (0 : Int)))
                                                                                          (CallsH Try.prog n_ref01_Same #[Value.slice p40 l41 c42, Value.slice p34 l35 c36] h38
                                                                                            fun (v44 : Value) (h45 : Heap) =>
                                                                                            Ext h38 h45 ∧
                                                                                              ∃ (t46 : Bool),
                                                                                                v44 = Value.bool t46 ∧
                                                                                                  br (!t46) (R (Value.bool false) h45)
                                                                                                    (CallsH Try.prog n_slot_Save
                                                                                                      #[Value.pointer p17, Value.int IntKind.i64 (0 : Int), Value.slice value value_l value_c] h45
                                                                                                      fun (v47 : Value) (h48 : Heap) =>
                                                                                                      ∃ (n49 : Int),
                                                                                                        ∃ (n50 : Int),
                                                                                                          v47 = Value.tuple #[Value.int IntKind.u64 n49, Value.int IntKind.i64 n50] ∧
                                                                                                            br (n39 == (18446744073709551615 : Int))
                                                                                                              (br (n50 == (5 : Int)) (R (Value.bool (n49 == (0 : Int))) h48) (R (Value.bool false) h48))
                                                                                                              (br (n50 == (0 : Int))
                                                                                                                (R (Value.bool (n49 == IntKind.wrap IntKind.u64 (n39 + (1 : Int)))) h48)
                                                                                                                (R (Value.bool false) h48))))
                                                                                          (CallsH Try.prog n_slot_Save
                                                                                            #[Value.pointer p17, Value.int IntKind.i64 (0 : Int), Value.slice value value_l value_c] h38
                                                                                            fun (v51 : Value) (h52 : Heap) =>
                                                                                            ∃ (n53 : Int),
                                                                                              ∃ (n54 : Int),
                                                                                                v51 = Value.tuple #[Value.int IntKind.u64 n53, Value.int IntKind.i64 n54] ∧
                                                                                                  br (n39 == (18446744073709551615 : Int))
                                                                                                    (br (n54 == (5 : Int)) (R (Value.bool (n53 == (0 : Int))) h52) (R (Value.bool false) h52))
                                                                                                    (br (n54 == (0 : Int)) (R (Value.bool (n53 == IntKind.wrap IntKind.u64 (n39 + (1 : Int)))) h52)
                                                                                                      (R (Value.bool false) h52))))))
                                                                                    (br (n43 != (0 : Int)) (R (Value.bool false) h38)
                                                                                      (br (n39 != n27) (R (Value.bool false) h38)
                                                                                        (br (decide (n27 > (0 : Int)))
                                                                                          (CallsH Try.prog n_ref01_Same #[Value.slice p40 l41 c42, Value.slice p28 l29 c30] h38
                                                                                            fun (v55 : Value) (h56 : Heap) =>
                                                                                            Ext h38 h56 ∧
                                                                                              ∃ (t57 : Bool),
                                                                                                v55 = Value.bool t57 ∧
                                                                                                  br (!t57) (R (Value.bool false) h56)
                                                                                                    (CallsH Try.prog n_slot_Save
                                                                                                      #[Value.pointer p17, Value.int IntKind.i64 (0 : Int), Value.slice value value_l value_c] h56
                                                                                                      fun (v58 : Value) (h59 : Heap) =>
                                                                                                      ∃ (n60 : Int),
                                                                                                        ∃ (n61 : Int),
                                                                                                          v58 = Value.tuple #[Value.int IntKind.u64 n60, Value.int IntKind.i64 n61] ∧
                                                                                                            br (n39 == (18446744073709551615 : Int))
                                                                                                              (br (n61 == (5 : Int)) (R (Value.bool (n60 == (0 : Int))) h59) (R (Value.bool false) h59))
                                                                                                              (br (n61 == (0 : Int))
                                                                                                                (R (Value.bool (n60 == IntKind.wrap IntKind.u64 (n39 + (1 : Int)))) h59)
                                                                                                                (R (Value.bool false) h59))))
                                                                                          (CallsH Try.prog n_slot_Save
                                                                                            #[Value.pointer p17, Value.int IntKind.i64 (0 : Int), Value.slice value value_l value_c] h38
                                                                                            fun (v62 : Value) (h63 : Heap) =>
                                                                                            ∃ (n64 : Int),
                                                                                              ∃ (n65 : Int),
                                                                                                v62 = Value.tuple #[Value.int IntKind.u64 n64, Value.int IntKind.i64 n65] ∧
                                                                                                  br (n39 == (18446744073709551615 : Int))
                                                                                                    (br (n65 == (5 : Int)) (R (Value.bool (n64 == (0 : Int))) h63) (R (Value.bool false) h63))
                                                                                                    (br (n65 == (0 : Int)) (R (Value.bool (n64 == IntKind.wrap IntKind.u64 (n39 + (1 : Int)))) h63)
                                                                                                      (R (Value.bool false) h63))))))))))
theorem C_law08_SlotAny (a : Option Addr) (a_l : Nat) (a_c : Nat) (b : Option Addr) (b_l : Nat) (b_c : Nat) (value : Option Addr) (value_l : Nat) (value_c : Nat) {h : Heap} {R : Value → Heap → Prop} (H : F_law08_SlotAny a a_l a_c b b_l b_c value value_l value_c h R) : CallsH Try.prog n_law08_SlotAny [(.slice a a_l a_c), (.slice b b_l b_c), (.slice value value_l value_c)].toArray h R :=
  fn_sound (A := A_law08_SlotAny) (Eq.mp (by kernel_rfl : F_law08_SlotAny a a_l a_c b b_l b_c value value_l value_c h R = fnVc Go.Proofs.Try.prog A_law08_SlotAny 4 [(.slice a a_l a_c), (.slice b b_l b_c), (.slice value value_l value_c)] h R) H)

end Go.Proofs.Ytkeggnfffnodmaa
