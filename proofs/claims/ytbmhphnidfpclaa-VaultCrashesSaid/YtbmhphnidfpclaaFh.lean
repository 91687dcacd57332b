/- The formulas of some functions, and that each is what its code comes to. Written by a program of ours. -/
import Derived.Test.YtbmhphnidfpclaaV
import Derived.Test.YtbmhphnidfpclaaNm
import Derived.Test.YtbmhphnidfpclaaProg
import Derived.KernelRfl
set_option linter.unusedVariables false
set_option maxRecDepth 100000
namespace Go.Proofs.Ytbmhphnidfpclaa
open Go Go.Vc Go.Proofs

/- (*rolodex/vault.Vault).Space -/
def A_vault_Vault_Space : Ann := { qs := [6, 7, 12, 13, 14, 15, 17, 18, 20, 21, 22, 23, 25, 26, 32, 33, 34, 35, 36, 37, 40, 42, 43, 44, 45, 46, 50, 51, 54, 56, 59, 60, 63, 66, 70] }
def F_vault_Vault_Space (v : Option Addr) (h : Heap) (R : Value → Heap → Prop) : Prop :=
  br (Option.isNone v) (R (Value.int IntKind.i64 (0 : Int)) h)
  (deref v fun (a0 : Addr) =>
    ∃ (p1 : Option Addr),
      cell h (Addr.add a0 (0 : Nat)) = some (Value.pointer p1) ∧
        CallsH Try.prog n_device_Device_Pages #[Value.pointer p1] h fun (v2 : Value) (h3 : Heap) =>
          Ext h h3 ∧
            ∃ (n4 : Int),
              v2 = Value.int IntKind.i64 n4 ∧ (2 : Int) ≠ (0 : Int) ∧ R (Value.int IntKind.i64 (IntKind.wrap IntKind.i64 (Int.tdiv (IntKind.wrap IntKind.i64 (n4 - (2 : Int))) (2 : Int)))) h3)
theorem C_vault_Vault_Space (v : Option Addr) {h : Heap} {R : Value → Heap → Prop} (H : F_vault_Vault_Space v h R) : CallsH Try.prog n_vault_Vault_Space [(.pointer v)].toArray h R :=
  fn_sound (A := A_vault_Vault_Space) (Eq.mp (by kernel_rfl : F_vault_Vault_Space v h R = fnVc Go.Proofs.Try.prog A_vault_Vault_Space 13 [(.pointer v)] h R) H)

/- (*rolodex/vault.Vault).from -/
def A_vault_Vault_from : Ann := { qs := [6, 7, 12, 13, 14, 15, 17, 18, 20, 21, 22, 23, 25, 26, 32, 33, 34, 35, 36, 37, 40, 42, 43, 44, 45, 46, 50, 51, 54, 56, 59, 60, 63, 66, 70] }
def F_vault_Vault_from (v : Option Addr) (second : Bool) (h : Heap) (R : Value → Heap → Prop) : Prop :=
  br second
  (CallsH Try.prog n_vault_Vault_Space #[Value.pointer v] h fun (v0 : Value) (h1 : Heap) =>
    Ext h h1 ∧ ∃ (n2 : Int), v0 = Value.int IntKind.i64 n2 ∧ R (Value.int IntKind.i64 (IntKind.wrap IntKind.i64 ((2 : Int) + n2))) h1)
  (R (Value.int IntKind.i64 (2 : Int)) h)
theorem C_vault_Vault_from (v : Option Addr) (second : Bool) {h : Heap} {R : Value → Heap → Prop} (H : F_vault_Vault_from v second h R) : CallsH Try.prog n_vault_Vault_from [(.pointer v), (.bool second)].toArray h R :=
  fn_sound (A := A_vault_Vault_from) (Eq.mp (by kernel_rfl : F_vault_Vault_from v second h R = fnVc Go.Proofs.Try.prog A_vault_Vault_from 26 [(.pointer v), (.bool second)] h R) H)

/- (*rolodex/vault.Vault).done -/
def A_vault_Vault_done : Ann := { qs := [6, 7, 12, 13, 14, 15, 17, 18, 20, 21, 22, 23, 25, 26, 32, 33, 34, 35, 36, 37, 40, 42, 43, 44, 45, 46, 50, 51, 54, 56, 59, 60, 63, 66, 70] }
def F_vault_Vault_done (v : Option Addr) (e : Int) (h : Heap) (R : Value → Heap → Prop) : Prop :=
  deref v fun (a0 : Addr) =>
  ∃ (t1 : Bool),
    cell h (Addr.add a0 (5 : Nat)) = some (Value.bool t1) ∧
      br t1 (deref v fun (a2 : Addr) => storeP none h (Addr.mk (Addr.block a2) (Addr.off a2 + (5 : Nat)) none) (Value.bool true) fun (h3 : Heap) => R (Value.int IntKind.i64 e) h3)
        (deref v fun (a4 : Addr) => storeP none h (Addr.mk (Addr.block a4) (Addr.off a4 + (5 : Nat)) none) (Value.bool (e == (6 : Int))) fun (h5 : Heap) => R (Value.int IntKind.i64 e) h5)
theorem C_vault_Vault_done (v : Option Addr) (e : Int) {h : Heap} {R : Value → Heap → Prop} (H : F_vault_Vault_done v e h R) : CallsH Try.prog n_vault_Vault_done [(.pointer v), (.int .i64 e)].toArray h R :=
  fn_sound (A := A_vault_Vault_done) (Eq.mp (by kernel_rfl : F_vault_Vault_done v e h R = fnVc Go.Proofs.Try.prog A_vault_Vault_done 27 [(.pointer v), (.int .i64 e)] h R) H)

/- (rolodex/vault.state).encode -/
def A_vault_state_encode : Ann := { qs := [6, 7, 12, 13, 14, 15, 17, 18, 20, 21, 22, 23, 25, 26, 32, 33, 34, 35, 36, 37, 40, 42, 43, 44, 45, 46, 50, 51, 54, 56, 59, 60, 63, 66, 70] }
def F_vault_state_encode (s : Array Value) (h : Heap) (R : Value → Heap → Prop) : Prop :=
  newBlk h (59 : Nat) s fun (b0 : Nat) (h1 : Heap) =>
  newBlk h1 (108 : Nat) #[Value.slice none (0 : Nat) (0 : Nat), Value.bool false] fun (b2 : Nat) (h3 : Heap) =>
    ∃ (t4 : Bool),
      cell h3 (Addr.add (Addr.mk b0 (0 : Nat) none) (0 : Nat)) = some (Value.bool t4) ∧
        CallsH Try.prog n_wire_Writer_Flag #[Value.pointer (some (Addr.mk b2 (0 : Nat) none)), Value.bool t4] h3 fun (v5 : Value) (h6 : Heap) =>
          v5 = Value.tuple #[] ∧
            ∃ (n7 : Int),
              cell h6 (Addr.add (Addr.mk b0 (0 : Nat) none) (1 : Nat)) = some (Value.int IntKind.u32 n7) ∧
                CallsH Try.prog n_wire_Writer_U32 #[Value.pointer (some (Addr.mk b2 (0 : Nat) none)), Value.int IntKind.u32 n7] h6 fun (v8 : Value) (h9 : Heap) =>
                  v8 = Value.tuple #[] ∧
                    ∃ (n10 : Int),
                      cell h9 (Addr.add (Addr.mk b0 (0 : Nat) none) (2 : Nat)) = some (Value.int IntKind.u32 n10) ∧
                        CallsH Try.prog n_wire_Writer_U32 #[Value.pointer (some (Addr.mk b2 (0 : Nat) none)), Value.int IntKind.u32 n10] h9 fun (v11 : Value) (h12 : Heap) =>
                          v11 = Value.tuple #[] ∧
                            CallsH Try.prog n_wire_Writer_Out #[Value.pointer (some (Addr.mk b2 (0 : Nat) none))] h12 fun (v13 : Value) (h14 : Heap) =>
                              Ext h12 h14 ∧
                                ∃ (p15 : Option Addr),
                                  ∃ (l16 : Nat), ∃ (c17 : Nat), ∃ (n18 : Int), v13 = Value.tuple #[Value.slice p15 l16 c17, Value.int IntKind.i64 n18] ∧ R (Value.slice p15 l16 c17) h14
theorem C_vault_state_encode (s : Array Value) {h : Heap} {R : Value → Heap → Prop} (H : F_vault_state_encode s h R) : CallsH Try.prog n_vault_state_encode [(.agg s)].toArray h R :=
  fn_sound (A := A_vault_state_encode) (Eq.mp (by kernel_rfl : F_vault_state_encode s h R = fnVc Go.Proofs.Try.prog A_vault_state_encode 42 [(.agg s)] h R) H)

/- rolodex/vault.decode -/
def A_vault_decode : Ann := { qs := [6, 7, 12, 13, 14, 15, 17, 18, 20, 21, 22, 23, 25, 26, 32, 33, 34, 35, 36, 37, 40, 42, 43, 44, 45, 46, 50, 51, 54, 56, 59, 60, 63, 66, 70], plans := [(3, (.take 0 (.take 1 (.alt 2 (.take 3 (.take 4 (.take 5 (.take 6 (.take 7 (.take 8 (.take 9 (.take 10 (.take 11 (.take 12 (.take 13 (.take 14 (.take 15 (.take 16 (.alt 17 (.take 18 (.take 19 (.alt 20 (.take 21 .done) .stop))) (.alt 20 (.take 17 (.take 18 (.take 19 (.take 21 .done)))) .stop)))))))))))))))) .stop))))] }
def F_vault_decode (b : Option Addr) (b_l : Nat) (b_c : Nat) (h : Heap) (R : Value → Heap → Prop) : Prop :=
  newBlk h (59 : Nat) #[Value.bool false, Value.int IntKind.u32 (0 : Int), Value.int IntKind.u32 (0 : Int)] fun (b0 : Nat) (h1 : Heap) =>
  CallsH Try.prog n_wire_New #[Value.slice b b_l b_c] h1 fun (v2 : Value) (h3 : Heap) =>
    Ext h1 h3 ∧
      ∃ (p4 : Option Addr),
        v2 = Value.pointer p4 ∧
          CallsH Try.prog n_wire_Reader_Flag #[Value.pointer p4] h3 fun (v5 : Value) (h6 : Heap) =>
            ∃ (t7 : Bool),
              v5 = Value.bool t7 ∧
                CallsH Try.prog n_wire_Reader_U32 #[Value.pointer p4] h6 fun (v8 : Value) (h9 : Heap) =>
                  ∃ (n10 : Int),
                    v8 = Value.int IntKind.u32 n10 ∧
                      CallsH Try.prog n_wire_Reader_U32 #[Value.pointer p4] h9 fun (v11 : Value) (h12 : Heap) =>
                        ∃ (n13 : Int),
                          v11 = Value.int IntKind.u32 n13 ∧
                            newBlk h12 (59 : Nat) #[Value.bool false, Value.int IntKind.u32 (0 : Int), Value.int IntKind.u32 (0 : Int)] fun (b14 : Nat) (h15 : Heap) =>
                              storeP (some (3 : Nat)) h15 (Addr.mk b14 (0 : Nat) none) (Value.agg #[Value.bool t7, Value.int IntKind.u32 n10, Value.int IntKind.u32 n13]) fun (h16 : Heap) =>
                                ∃ (cs17 : Array Value),
                                  row h16 (Addr.mk b14 (0 : Nat) none) (3 : Nat) = some cs17 ∧
                                    CallsH Try.prog n_wire_Reader_Done #[Value.pointer p4] h16 fun (v18 : Value) (h19 : Heap) =>
                                      Ext h16 h19 ∧
                                        ∃ (t20 : Bool),
                                          v18 = Value.bool t20 ∧
                                            br t20
                                              (∃ (n21 : Int),
                                                cell h19 (Addr.add (Addr.mk b14 (0 : Nat) none) (1 : Nat)) = some (Value.int IntKind.u32 n21) ∧
                                                  br (decide (n21 > (0 : Int)))
                                                    (∃ (n22 : Int),
                                                      cell h19 (Addr.add (Addr.mk b14 (0 : Nat) none) (2 : Nat)) = some (Value.int IntKind.u32 n22) ∧
                                                        ∃ (n23 : Int),
                                                          cell h19 (Addr.add (Addr.mk b14 (0 : Nat) none) (1 : Nat)) = some (Value.int IntKind.u32 n23) ∧
                                                            br (decide (n22 ≥ n23))
                                                              ((∃ (n24 : Int),
                                                                  cell h19 (Addr.add (Addr.mk b14 (0 : Nat) none) (2 : Nat)) = some (Value.int IntKind.u32 n24) ∧
                                                                    storeP (some (3 : Nat)) h19 (Addr.mk b0 (0 : Nat) none) (Value.agg cs17) fun (h25 : Heap) =>
                                                                      ∃ (cs26 : Array Value),
                                                                        row h25 (Addr.mk b0 (0 : Nat) none) (3 : Nat) = some cs26 ∧
                                                                          R (Value.tuple #[Value.agg cs26, Value.bool (decide (n24 < (4294967295 : Int)))]) h25) ∧
                                                                storeP (some (3 : Nat)) h19 (Addr.mk b0 (0 : Nat) none) (Value.agg cs17) fun (h27 : Heap) =>
                                                                  ∃ (n28 : Int),
                                                                    cell h27 (Addr.add (Addr.mk b14 (0 : Nat) none) (2 : Nat)) = some (Value.int IntKind.u32 n28) ∧
                                                                      ∃ (cs29 : Array Value),
                                                                        row h27 (Addr.mk b0 (0 : Nat) none) (3 : Nat) = some cs29 ∧
                                                                          R (Value.tuple #[Value.agg cs29, Value.bool (decide (n28 < (4294967295 : Int)))]) h27)
                                                              ((storeP (some (3 : Nat)) h19 (Addr.mk b0 (0 : Nat) none) (Value.agg cs17) fun (h30 : Heap) =>
                                                                  ∃ (cs31 : Array Value),
                                                                    row h30 (Addr.mk b0 (0 : Nat) none) (3 : Nat) = some cs31 ∧ R (Value.tuple #[Value.agg cs31, Value.bool false]) h30) ∧
                                                                storeP (some (3 : Nat)) h19 (Addr.mk b0 (0 : Nat) none) (Value.agg cs17) fun (h32 : Heap) =>
                                                                  ∃ (cs33 : Array Value),
                                                                    row h32 (Addr.mk b0 (0 : Nat) none) (3 : Nat) = some cs33 ∧ R (Value.tuple #[Value.agg cs33, Value.bool false]) h32))
                                                    ((storeP (some (3 : Nat)) h19 (Addr.mk b0 (0 : Nat) none) (Value.agg cs17) fun (h34 : Heap) =>
                                                        ∃ (cs35 : Array Value), row h34 (Addr.mk b0 (0 : Nat) none) (3 : Nat) = some cs35 ∧ R (Value.tuple #[Value.agg cs35, Value.bool false]) h34) ∧
                                                      storeP (some (3 : Nat)) h19 (Addr.mk b0 (0 : Nat) none) (Value.agg cs17) fun (h36 : Heap) =>
                                                        ∃ (cs37 : Array Value), row h36 (Addr.mk b0 (0 : Nat) none) (3 : Nat) = some cs37 ∧ R (Value.tuple #[Value.agg cs37, Value.bool false]) h36))
                                              ((storeP (some (3 : Nat)) h19 (Addr.mk b0 (0 : Nat) none) (Value.agg cs17) fun (h38 : Heap) =>
                                                  ∃ (cs39 : Array Value), row h38 (Addr.mk b0 (0 : Nat) none) (3 : Nat) = some cs39 ∧ R (Value.tuple #[Value.agg cs39, Value.bool false]) h38) ∧
                                                storeP (some (3 : Nat)) h19 (Addr.mk b0 (0 : Nat) none) (Value.agg cs17) fun (h40 : Heap) =>
                                                  ∃ (cs41 : Array Value), row h40 (Addr.mk b0 (0 : Nat) none) (3 : Nat) = some cs41 ∧ R (Value.tuple #[Value.agg cs41, Value.bool false]) h40)
theorem C_vault_decode (b : Option Addr) (b_l : Nat) (b_c : Nat) {h : Heap} {R : Value → Heap → Prop} (H : F_vault_decode b b_l b_c h R) : CallsH Try.prog n_vault_decode [(.slice b b_l b_c)].toArray h R :=
  fn_sound (A := A_vault_decode) (Eq.mp (by kernel_rfl : F_vault_decode b b_l b_c h R = fnVc Go.Proofs.Try.prog A_vault_decode 23 [(.slice b b_l b_c)] h R) H)

/- (*rolodex/vault.Vault).save -/
def A_vault_Vault_save : Ann := { qs := [6, 7, 12, 13, 14, 15, 17, 18, 20, 21, 22, 23, 25, 26, 32, 33, 34, 35, 36, 37, 40, 42, 43, 44, 45, 46, 50, 51, 54, 56, 59, 60, 63, 66, 70], plans := [(1, (.take 0 (.take 1 (.take 2 (.take 3 (.take 4 (.alt 5 (.alt 6 (.take 7 (.take 8 (.take 9 (.take 10 (.take 11 .done))))) .stop) .stop)))))))] }
def F_vault_Vault_save (v : Option Addr) (s : Array Value) (h : Heap) (R : Value → Heap → Prop) : Prop :=
  newBlk h (59 : Nat) s fun (b0 : Nat) (h1 : Heap) =>
  deref v fun (a2 : Addr) =>
    ∃ (p3 : Option Addr),
      cell h1 (Addr.add a2 (0 : Nat)) = some (Value.pointer p3) ∧
        ∃ (cs4 : Array Value),
          row h1 (Addr.mk b0 (0 : Nat) none) (3 : Nat) = some cs4 ∧
            CallsH Try.prog n_vault_state_encode #[Value.agg cs4] h1 fun (v5 : Value) (h6 : Heap) =>
              Ext h1 h6 ∧
                ∃ (p7 : Option Addr),
                  ∃ (l8 : Nat),
                    ∃ (c9 : Nat),
                      v5 = Value.slice p7 l8 c9 ∧
                        CallsH Try.prog n_slot_Save #[Value.pointer p3, Value.int IntKind.i64 (0 : Int), Value.slice p7 l8 c9] h6 fun (v10 : Value) (h11 : Heap) =>
                          ∃ (n12 : Int),
                            ∃ (n13 : Int),
                              v10 = Value.tuple #[Value.int IntKind.u64 n12, Value.int IntKind.i64 n13] ∧
                                br (n13 != (0 : Int))
                                  (CallsH Try.prog n_vault_Vault_done #[Value.pointer v, Value.int IntKind.i64 n13] h11 fun (v14 : Value) (h15 : Heap) =>
                                    ∃ (n16 : Int), v14 = Value.int IntKind.i64 n16 ∧ R (Value.int IntKind.i64 n16) h15)
                                  (∃ (cs17 : Array Value),
                                    row h11 (Addr.mk b0 (0 : Nat) none) (3 : Nat) = some cs17 ∧
                                      deref v fun (a18 : Addr) =>
                                        storeP (some (3 : Nat)) h11 (Addr.mk (Addr.block a18) (Addr.off a18 + (1 : Nat)) none) (Value.agg cs17) fun (h19 : Heap) =>
                                          R (Value.int IntKind.i64 (0 : Int)) h19)
theorem C_vault_Vault_save (v : Option Addr) (s : Array Value) {h : Heap} {R : Value → Heap → Prop} (H : F_vault_Vault_save v s h R) : CallsH Try.prog n_vault_Vault_save [(.pointer v), (.agg s)].toArray h R :=
  fn_sound (A := A_vault_Vault_save) (Eq.mp (by kernel_rfl : F_vault_Vault_save v s h R = fnVc Go.Proofs.Try.prog A_vault_Vault_save 24 [(.pointer v), (.agg s)] h R) H)

/- rolodex/vault.Open -/
def A_vault_Open : Ann := { qs := [6, 7, 12, 13, 14, 15, 17, 18, 20, 21, 22, 23, 25, 26, 32, 33, 34, 35, 36, 37, 40, 42, 43, 44, 45, 46, 50, 51, 54, 56, 59, 60, 63, 66, 70], cuts := [(12, [])], plans := [(17, (.take 0 (.take 1 (.take 2 (.take 3 (.take 5 (.take 7 (.take 8 (.take 9 (.take 10 (.alt 4 (.alt 6 (.alt 11 (.take 12 (.take 13 (.take 14 (.take 15 (.take 16 (.take 17 (.take 18 .done))))))) .stop) .stop) .stop)))))))))))] }
def F_vault_Open (d : Option Addr) (h : Heap) (R : Value → Heap → Prop) : Prop :=
  CallsH Try.prog n_device_Device_Pages #[Value.pointer d] h fun (v0 : Value) (h1 : Heap) =>
  Ext h h1 ∧
    ∃ (n2 : Int),
      v0 = Value.int IntKind.i64 n2 ∧
        br (decide (n2 < (4 : Int))) (R (Value.tuple #[Value.pointer none, Value.slice none (0 : Nat) (0 : Nat), Value.int IntKind.i64 (1 : Int)]) h1)
          (CallsH Try.prog n_slot_Load #[Value.pointer d, Value.int IntKind.i64 (0 : Int)] h1 fun (v3 : Value) (h4 : Heap) =>
            Ext h1 h4 ∧
              ∃ (n5 : Int),
                ∃ (p6 : Option Addr),
                  ∃ (l7 : Nat),
                    ∃ (c8 : Nat),
                      ∃ (n9 : Int),
                        v3 = Value.tuple #[Value.int IntKind.u64 n5, Value.slice p6 l7 c8, Value.int IntKind.i64 n9] ∧
                          br (n9 != (0 : Int)) (R (Value.tuple #[Value.pointer none, Value.slice none (0 : Nat) (0 : Nat), Value.int IntKind.i64 n9]) h4)
                            (newBlk h4 (59 : Nat) #[Value.bool false, Value.int IntKind.u32 (0 : Int), Value.int IntKind.u32 (0 : Int)] fun (b10 : Nat) (h11 : Heap) =>
                              storeP (some (3 : Nat)) h11 (Addr.mk b10 (0 : Nat) none) (Value.agg #[Value.bool false, Value.int IntKind.u32 (1 : Int), Value.int IntKind.u32 (0 : Int)])
                                fun (h12 : Heap) =>
                                ∃ (J13 : PUnit → Heap → Prop),
                                  br (decide (n5 > (0 : Int)))
                                      (CallsH Try.prog n_vault_decode #[Value.slice p6 l7 c8] h12 fun (v14 : Value) (h15 : Heap) =>
                                        Ext h12 h15 ∧
                                          ∃ (cs16 : Array Value),
                                            Array.size cs16 = (3 : Nat) ∧
                                              ∃ (t17 : Bool),
                                                v14 = Value.tuple #[Value.agg cs16, Value.bool t17] ∧
                                                  newBlk h15 (59 : Nat) #[Value.bool false, Value.int IntKind.u32 (0 : Int), Value.int IntKind.u32 (0 : Int)] fun (b18 : Nat) (h19 : Heap) =>
                                                    storeP (some (3 : Nat)) h19 (Addr.mk b18 (0 : Nat) none) (Value.agg cs16) fun (h20 : Heap) =>
                                                      br (!t17) (R (Value.tuple #[Value.pointer none, Value.slice none (0 : Nat) (0 : Nat), Value.int IntKind.i64 (2 : Int)]) h20)
                                                        (∃ (cs21 : Array Value),
                                                          row h20 (Addr.mk b18 (0 : Nat) none) (3 : Nat) = some cs21 ∧
                                                            storeP (some (3 : Nat)) h20 (Addr.mk b10 (0 : Nat) none) (Value.agg cs21) fun (h22 : Heap) => J13 () h22))
                                      (J13 () h12) ∧
                                    ∀ (x23 : PUnit) (h24 : Heap),
                                      J13 x23 h24 →
                                        ∃ (n25 : Int),
                                          cell h24 (Addr.add (Addr.mk b10 (0 : Nat) none) (2 : Nat)) = some (Value.int IntKind.u32 n25) ∧
                                            storeP none h24 (Addr.mk (Addr.block (Addr.mk b10 (0 : Nat) none)) (Addr.off (Addr.mk b10 (0 : Nat) none) + (2 : Nat)) none)
                                              (Value.int IntKind.u32 (IntKind.wrap IntKind.u32 (n25 + (1 : Int)))) fun (h26 : Heap) =>
                                              newBlk h26 (64 : Nat)
                                                #[Value.pointer d, Value.bool false, Value.int IntKind.u32 (0 : Int), Value.int IntKind.u32 (0 : Int), Value.pointer none, Value.bool false]
                                                fun (b27 : Nat) (h28 : Heap) =>
                                                ∃ (cs29 : Array Value),
                                                  row h28 (Addr.mk b10 (0 : Nat) none) (3 : Nat) = some cs29 ∧
                                                    CallsH Try.prog n_vault_Vault_save #[Value.pointer (some (Addr.mk b27 (0 : Nat) none)), Value.agg cs29] h28 fun (v30 : Value) (h31 : Heap) =>
                                                      ∃ (n32 : Int),
                                                        v30 = Value.int IntKind.i64 n32 ∧
                                                          br (n32 != (0 : Int)) (R (Value.tuple #[Value.pointer none, Value.slice none (0 : Nat) (0 : Nat), Value.int IntKind.i64 n32]) h31)
                                                            (∃ (t33 : Bool),
                                                              cell h31 (Addr.add (Addr.mk b10 (0 : Nat) none) (0 : Nat)) = some (Value.bool t33) ∧
                                                                ∃ (n34 : Int),
                                                                  cell h31 (Addr.add (Addr.mk b10 (0 : Nat) none) (1 : Nat)) = some (Value.int IntKind.u32 n34) ∧
                                                                    ∃ (n35 : Int),
                                                                      cell h31 (Addr.add (Addr.mk b10 (0 : Nat) none) (2 : Nat)) = some (Value.int IntKind.u32 n35) ∧
                                                                        CallsH Try.prog n_vault_Vault_from #[Value.pointer (some (Addr.mk b27 (0 : Nat) none)), Value.bool t33] h31
                                                                          fun (v36 : Value) (h37 : Heap) =>
                                                                          Ext h31 h37 ∧
                                                                            ∃ (n38 : Int),
                                                                              v36 = Value.int IntKind.i64 n38 ∧
                                                                                CallsH Try.prog n_vault_Vault_Space #[Value.pointer (some (Addr.mk b27 (0 : Nat) none))] h37 fun (v39 : Value) (h40 : Heap) =>
                                                                                  Ext h37 h40 ∧
                                                                                    ∃ (n41 : Int),
                                                                                      v39 = Value.int IntKind.i64 n41 ∧
                                                                                        CallsH Try.prog n_wal_Open
                                                                                          #[Value.pointer d, Value.int IntKind.i64 n38, Value.int IntKind.i64 n41, Value.int IntKind.u32 n34,
                                                                                            Value.int IntKind.u32 n35]
                                                                                          h40 fun (v42 : Value) (h43 : Heap) =>
                                                                                          Ext h40 h43 ∧
                                                                                            ∃ (p44 : Option Addr),
                                                                                              ∃ (p45 : Option Addr),
                                                                                                ∃ (l46 : Nat),
                                                                                                  ∃ (c47 : Nat),
                                                                                                    ∃ (n48 : Int),
                                                                                                      v42 = Value.tuple #[Value.pointer p44, Value.slice p45 l46 c47, Value.int IntKind.i64 n48] ∧
                                                                                                        br (n48 != (0 : Int))
                                                                                                          (R
                                                                                                            (Value.tuple
                                                                                                              #[Value.pointer none, Value.slice none (0 : Nat) (0 : Nat), Value.int IntKind.i64 n48])
                                                                                                            h43)
                                                                                                          (storeP none h43
                                                                                                            (Addr.mk (Addr.block (Addr.mk b27 (0 : Nat) none))
                                                                                                              (Addr.off (Addr.mk b27 (0 : Nat) none) + (4 : Nat)) none)
                                                                                                            (Value.pointer p44) fun (h49 : Heap) =>
                                                                                                            R
                                                                                                              (Value.tuple
                                                                                                                #[Value.pointer (some (Addr.mk b27 (0 : Nat) none)), Value.slice p45 l46 c47,
                                                                                                                  Value.int IntKind.i64 (0 : Int)])
                                                                                                              h49))))
theorem C_vault_Open (d : Option Addr) {h : Heap} {R : Value → Heap → Prop} (H : F_vault_Open d h R) : CallsH Try.prog n_vault_Open [(.pointer d)].toArray h R :=
  fn_sound (A := A_vault_Open) (Eq.mp (by kernel_rfl : F_vault_Open d h R = fnVc Go.Proofs.Try.prog A_vault_Open 8 [(.pointer d)] h R) H)

/- (*rolodex/vault.Vault).Append -/
def A_vault_Vault_Append : Ann := { qs := [6, 7, 12, 13, 14, 15, 17, 18, 20, 21, 22, 23, 25, 26, 32, 33, 34, 35, 36, 37, 40, 42, 43, 44, 45, 46, 50, 51, 54, 56, 59, 60, 63, 66, 70] }
def F_vault_Vault_Append (v : Option Addr) (b : Option Addr) (b_l : Nat) (b_c : Nat) (h : Heap) (R : Value → Heap → Prop) : Prop :=
  br (Option.isNone v) (R (Value.int IntKind.i64 (6 : Int)) h)
  (deref v fun (a0 : Addr) =>
    ∃ (t1 : Bool),
      cell h (Addr.add a0 (5 : Nat)) = some (Value.bool t1) ∧
        br t1 (R (Value.int IntKind.i64 (6 : Int)) h)
          (deref v fun (a2 : Addr) =>
            ∃ (p3 : Option Addr),
              cell h (Addr.add a2 (4 : Nat)) = some (Value.pointer p3) ∧
                CallsH Try.prog n_wal_Log_Append #[Value.pointer p3, Value.slice b b_l b_c] h fun (v4 : Value) (h5 : Heap) =>
                  ∃ (n6 : Int),
                    v4 = Value.int IntKind.i64 n6 ∧
                      CallsH Try.prog n_vault_Vault_done #[Value.pointer v, Value.int IntKind.i64 n6] h5 fun (v7 : Value) (h8 : Heap) =>
                        ∃ (n9 : Int), v7 = Value.int IntKind.i64 n9 ∧ R (Value.int IntKind.i64 n9) h8))
theorem C_vault_Vault_Append (v : Option Addr) (b : Option Addr) (b_l : Nat) (b_c : Nat) {h : Heap} {R : Value → Heap → Prop} (H : F_vault_Vault_Append v b b_l b_c h R) : CallsH Try.prog n_vault_Vault_Append [(.pointer v), (.slice b b_l b_c)].toArray h R :=
  fn_sound (A := A_vault_Vault_Append) (Eq.mp (by kernel_rfl : F_vault_Vault_Append v b b_l b_c h R = fnVc Go.Proofs.Try.prog A_vault_Vault_Append 9 [(.pointer v), (.slice b b_l b_c)] h R) H)

/- (*rolodex/vault.Vault).Flush -/
def A_vault_Vault_Flush : Ann := { qs := [6, 7, 12, 13, 14, 15, 17, 18, 20, 21, 22, 23, 25, 26, 32, 33, 34, 35, 36, 37, 40, 42, 43, 44, 45, 46, 50, 51, 54, 56, 59, 60, 63, 66, 70] }
def F_vault_Vault_Flush (v : Option Addr) (h : Heap) (R : Value → Heap → Prop) : Prop :=
  br (Option.isNone v) (R (Value.int IntKind.i64 (6 : Int)) h)
  (deref v fun (a0 : Addr) =>
    ∃ (t1 : Bool),
      cell h (Addr.add a0 (5 : Nat)) = some (Value.bool t1) ∧
        br t1 (R (Value.int IntKind.i64 (6 : Int)) h)
          (deref v fun (a2 : Addr) =>
            ∃ (p3 : Option Addr),
              cell h (Addr.add a2 (4 : Nat)) = some (Value.pointer p3) ∧
                CallsH Try.prog n_wal_Log_Flush #[Value.pointer p3] h fun (v4 : Value) (h5 : Heap) =>
                  ∃ (n6 : Int),
                    v4 = Value.int IntKind.i64 n6 ∧
                      CallsH Try.prog n_vault_Vault_done #[Value.pointer v, Value.int IntKind.i64 n6] h5 fun (v7 : Value) (h8 : Heap) =>
                        ∃ (n9 : Int), v7 = Value.int IntKind.i64 n9 ∧ R (Value.int IntKind.i64 n9) h8))
theorem C_vault_Vault_Flush (v : Option Addr) {h : Heap} {R : Value → Heap → Prop} (H : F_vault_Vault_Flush v h R) : CallsH Try.prog n_vault_Vault_Flush [(.pointer v)].toArray h R :=
  fn_sound (A := A_vault_Vault_Flush) (Eq.mp (by kernel_rfl : F_vault_Vault_Flush v h R = fnVc Go.Proofs.Try.prog A_vault_Vault_Flush 10 [(.pointer v)] h R) H)

/- (*rolodex/vault.Vault).fits -/
def A_vault_Vault_fits : Ann := { qs := [6, 7, 12, 13, 14, 15, 17, 18, 20, 21, 22, 23, 25, 26, 32, 33, 34, 35, 36, 37, 40, 42, 43, 44, 45, 46, 50, 51, 54, 56, 59, 60, 63, 66, 70], loops := [(3, [(5, (.int .i64)), (10, (.int .i64))])] }
def F_vault_Vault_fits (v : Option Addr) (records : Option Addr) (records_l : Nat) (records_c : Nat) (h : Heap) (R : Value → Heap → Prop) : Prop :=
  ∃ (I0 : Int × Int → Heap → Prop),
  ∃ (μ1 : Int × Int → Heap → Nat),
    I0 ((0 : Int), (0 : Int)) h ∧
      ∀ (s2 : Int × Int) (h3 : Heap),
        I0 s2 h3 →
          br (decide (Prod.snd s2 < (↑records_l : Int)))
            ((0 : Int) ≤ Prod.snd s2 ∧
              Prod.snd s2 < (↑records_l : Int) ∧
                deref records fun (a4 : Addr) =>
                  ∃ (p5 : Option Addr),
                    ∃ (l6 : Nat),
                      ∃ (c7 : Nat),
                        cell h3 (Addr.add a4 (Int.toNat (Prod.snd s2) * (1 : Nat))) = some (Value.slice p5 l6 c7) ∧
                          br (decide ((↑l6 : Int) > (6000 : Int))) (R (Value.int IntKind.i64 (3 : Int)) h3)
                            (CallsH Try.prog n_wal_Parts #[Value.int IntKind.i64 (↑l6 : Int)] h3 fun (v8 : Value) (h9 : Heap) =>
                              Ext h3 h9 ∧
                                ∃ (n10 : Int),
                                  v8 = Value.int IntKind.i64 n10 ∧
                                    CallsH Try.prog n_vault_Vault_Space #[Value.pointer v] h9 fun (v11 : Value) (h12 : Heap) =>
                                      Ext h9 h12 ∧
                                        ∃ (n13 : Int),
                                          v11 = Value.int IntKind.i64 n13 ∧
                                            I0 (minI (IntKind.wrap IntKind.i64 (Prod.fst s2 + n10)) (IntKind.wrap IntKind.i64 (n13 + (1 : Int))), IntKind.wrap IntKind.i64 (Prod.snd s2 + (1 : Int)))
                                                h12 ∧
                                              μ1 (minI (IntKind.wrap IntKind.i64 (Prod.fst s2 + n10)) (IntKind.wrap IntKind.i64 (n13 + (1 : Int))), IntKind.wrap IntKind.i64 (Prod.snd s2 + (1 : Int)))
                                                  h12 <
                                                μ1 s2 h3))
            (CallsH Try.prog n_vault_Vault_Space #[Value.pointer v] h3 fun (v14 : Value) (h15 : Heap) =>
              Ext h3 h15 ∧
                ∃ (n16 : Int),
                  v14 = Value.int IntKind.i64 n16 ∧
                    br (decide (Prod.fst s2 > n16)) (R (Value.int IntKind.i64 (5 : Int)) h15)
                      (deref v fun (a17 : Addr) =>
                        ∃ (n18 : Int),
                          cell h15 (Addr.add (Addr.add a17 (1 : Nat)) (2 : Nat)) = some (Value.int IntKind.u32 n18) ∧
                            br (decide (n18 ≥ (4294967294 : Int))) (R (Value.int IntKind.i64 (5 : Int)) h15) (R (Value.int IntKind.i64 (0 : Int)) h15)))
theorem C_vault_Vault_fits (v : Option Addr) (records : Option Addr) (records_l : Nat) (records_c : Nat) {h : Heap} {R : Value → Heap → Prop} (H : F_vault_Vault_fits v records records_l records_c h R) : CallsH Try.prog n_vault_Vault_fits [(.pointer v), (.slice records records_l records_c)].toArray h R :=
  fn_sound (A := A_vault_Vault_fits) (Eq.mp (by kernel_rfl : F_vault_Vault_fits v records records_l records_c h R = fnVc Go.Proofs.Try.prog A_vault_Vault_fits 30 [(.pointer v), (.slice records records_l records_c)] h R) H)

/- (*rolodex/vault.Vault).fill -/
def A_vault_Vault_fill : Ann := { qs := [6, 7, 12, 13, 14, 15, 17, 18, 20, 21, 22, 23, 25, 26, 32, 33, 34, 35, 36, 37, 40, 42, 43, 44, 45, 46, 50, 51, 54, 56, 59, 60, 63, 66, 70], loops := [(5, [(39, (.int .i64))])], plans := [(1, (.take 0 (.take 1 (.take 2 (.take 3 (.take 4 (.take 5 (.take 6 (.take 7 (.take 9 (.take 11 (.take 12 (.take 13 (.take 14 (.alt 8 (.alt 10 (.alt 15 (.take 16 (.take 17 (.take 18 (.take 19 (.take 20 (.take 21 (.take 22 .done))))))) .stop) .stop) .stop)))))))))))))))] }
def F_vault_Vault_fill (v : Option Addr) (s : Array Value) (records : Option Addr) (records_l : Nat) (records_c : Nat) (h : Heap) (R : Value → Heap → Prop) : Prop :=
  newBlk h (59 : Nat) s fun (b0 : Nat) (h1 : Heap) =>
  deref v fun (a2 : Addr) =>
    ∃ (p3 : Option Addr),
      cell h1 (Addr.add a2 (0 : Nat)) = some (Value.pointer p3) ∧
        ∃ (t4 : Bool),
          cell h1 (Addr.add (Addr.mk b0 (0 : Nat) none) (0 : Nat)) = some (Value.bool t4) ∧
            ∃ (n5 : Int),
              cell h1 (Addr.add (Addr.mk b0 (0 : Nat) none) (2 : Nat)) = some (Value.int IntKind.u32 n5) ∧
                ∃ (n6 : Int),
                  cell h1 (Addr.add (Addr.mk b0 (0 : Nat) none) (2 : Nat)) = some (Value.int IntKind.u32 n6) ∧
                    CallsH Try.prog n_vault_Vault_from #[Value.pointer v, Value.bool !t4] h1 fun (v7 : Value) (h8 : Heap) =>
                      Ext h1 h8 ∧
                        ∃ (n9 : Int),
                          v7 = Value.int IntKind.i64 n9 ∧
                            CallsH Try.prog n_vault_Vault_Space #[Value.pointer v] h8 fun (v10 : Value) (h11 : Heap) =>
                              Ext h8 h11 ∧
                                ∃ (n12 : Int),
                                  v10 = Value.int IntKind.i64 n12 ∧
                                    CallsH Try.prog n_wal_Open #[Value.pointer p3, Value.int IntKind.i64 n9, Value.int IntKind.i64 n12, Value.int IntKind.u32 n5, Value.int IntKind.u32 n6] h11
                                      fun (v13 : Value) (h14 : Heap) =>
                                      Ext h11 h14 ∧
                                        ∃ (p15 : Option Addr),
                                          ∃ (p16 : Option Addr),
                                            ∃ (l17 : Nat),
                                              ∃ (c18 : Nat),
                                                ∃ (n19 : Int),
                                                  v13 = Value.tuple #[Value.pointer p15, Value.slice p16 l17 c18, Value.int IntKind.i64 n19] ∧
                                                    br (n19 != (0 : Int)) (R (Value.tuple #[Value.pointer none, Value.int IntKind.i64 n19]) h14)
                                                      (∃ (I20 : Int → Heap → Prop),
                                                        ∃ (μ21 : Int → Heap → Nat),
                                                          I20 (0 : Int) h14 ∧
                                                            ∀ (n22 : Int) (h23 : Heap),
                                                              I20 n22 h23 →
                                                                br (decide (n22 < (↑records_l : Int)))
                                                                  ((0 : Int) ≤ n22 ∧
                                                                    n22 < (↑records_l : Int) ∧
                                                                      deref records fun (a24 : Addr) =>
                                                                        ∃ (p25 : Option Addr),
                                                                          ∃ (l26 : Nat),
                                                                            ∃ (c27 : Nat),
                                                                              cell h23 (Addr.add a24 (Int.toNat n22 * (1 : Nat))) = some (Value.slice p25 l26 c27) ∧
                                                                                CallsH Try.prog n_wal_Log_Append #[Value.pointer p15, Value.slice p25 l26 c27] h23 fun (v28 : Value) (h29 : Heap) =>
                                                                                  ∃ (n30 : Int),
                                                                                    v28 = Value.int IntKind.i64 n30 ∧
                                                                                      br (n30 != (0 : Int)) (R (Value.tuple #[Value.pointer none, Value.int IntKind.i64 n30]) h29)
                                                                                        (I20 (IntKind.wrap IntKind.i64 (n22 + (1 : Int))) h29 ∧
                                                                                          μ21 (IntKind.wrap IntKind.i64 (n22 + (1 : Int))) h29 < μ21 n22 h23))
                                                                  (CallsH Try.prog n_wal_Log_Flush #[Value.pointer p15] h23 fun (v31 : Value) (h32 : Heap) =>
                                                                    ∃ (n33 : Int), v31 = Value.int IntKind.i64 n33 ∧ R (Value.tuple #[Value.pointer p15, Value.int IntKind.i64 n33]) h32))
theorem C_vault_Vault_fill (v : Option Addr) (s : Array Value) (records : Option Addr) (records_l : Nat) (records_c : Nat) {h : Heap} {R : Value → Heap → Prop} (H : F_vault_Vault_fill v s records records_l records_c h R) : CallsH Try.prog n_vault_Vault_fill [(.pointer v), (.agg s), (.slice records records_l records_c)].toArray h R :=
  fn_sound (A := A_vault_Vault_fill) (Eq.mp (by kernel_rfl : F_vault_Vault_fill v s records records_l records_c h R = fnVc Go.Proofs.Try.prog A_vault_Vault_fill 31 [(.pointer v), (.agg s), (.slice records records_l records_c)] h R) H)

/- (*rolodex/vault.Vault).Replace -/
def A_vault_Vault_Replace : Ann := { qs := [6, 7, 12, 13, 14, 15, 17, 18, 20, 21, 22, 23, 25, 26, 32, 33, 34, 35, 36, 37, 40, 42, 43, 44, 45, 46, 50, 51, 54, 56, 59, 60, 63, 66, 70] }
def F_vault_Vault_Replace (v : Option Addr) (records : Option Addr) (records_l : Nat) (records_c : Nat) (h : Heap) (R : Value → Heap → Prop) : Prop :=
  br (Option.isNone v) (R (Value.int IntKind.i64 (6 : Int)) h)
  (deref v fun (a0 : Addr) =>
    ∃ (t1 : Bool),
      cell h (Addr.add a0 (5 : Nat)) = some (Value.bool t1) ∧
        br t1 (R (Value.int IntKind.i64 (6 : Int)) h)
          (CallsH Try.prog n_vault_Vault_fits #[Value.pointer v, Value.slice records records_l records_c] h fun (v2 : Value) (h3 : Heap) =>
            ∃ (n4 : Int),
              v2 = Value.int IntKind.i64 n4 ∧
                br (n4 != (0 : Int)) (R (Value.int IntKind.i64 n4) h3)
                  (deref v fun (a5 : Addr) =>
                    ∃ (cs6 : Array Value),
                      row h3 (Addr.add a5 (1 : Nat)) (3 : Nat) = some cs6 ∧
                        newBlk h3 (59 : Nat) #[Value.bool false, Value.int IntKind.u32 (0 : Int), Value.int IntKind.u32 (0 : Int)] fun (b7 : Nat) (h8 : Heap) =>
                          storeP (some (3 : Nat)) h8 (Addr.mk b7 (0 : Nat) none) (Value.agg cs6) fun (h9 : Heap) =>
                            ∃ (n10 : Int),
                              cell h9 (Addr.add (Addr.mk b7 (0 : Nat) none) (2 : Nat)) = some (Value.int IntKind.u32 n10) ∧
                                storeP none h9 (Addr.mk (Addr.block (Addr.mk b7 (0 : Nat) none)) (Addr.off (Addr.mk b7 (0 : Nat) none) + (2 : Nat)) none)
                                  (Value.int IntKind.u32 (IntKind.wrap IntKind.u32 (n10 + (1 : Int)))) fun (h11 : Heap) =>
                                  ∃ (cs12 : Array Value),
                                    row h11 (Addr.mk b7 (0 : Nat) none) (3 : Nat) = some cs12 ∧
                                      CallsH Try.prog n_vault_Vault_save #[Value.pointer v, Value.agg cs12] h11 fun (v13 : Value) (h14 : Heap) =>
                                        ∃ (n15 : Int),
                                          v13 = Value.int IntKind.i64 n15 ∧
                                            br (n15 != (0 : Int)) (R (Value.int IntKind.i64 n15) h14)
                                              (∃ (cs16 : Array Value),
                                                row h14 (Addr.mk b7 (0 : Nat) none) (3 : Nat) = some cs16 ∧
                                                  CallsH Try.prog n_vault_Vault_fill #[Value.pointer v, Value.agg cs16, Value.slice records records_l records_c] h14 fun (v17 : Value) (h18 : Heap) =>
                                                    ∃ (p19 : Option Addr),
                                                      ∃ (n20 : Int),
                                                        v17 = Value.tuple #[Value.pointer p19, Value.int IntKind.i64 n20] ∧
                                                          br (n20 != (0 : Int))
                                                            (CallsH Try.prog n_vault_Vault_done #[Value.pointer v, Value.int IntKind.i64 n20] h18 fun (v21 : Value) (h22 : Heap) =>
                                                              ∃ (n23 : Int), v21 = Value.int IntKind.i64 n23 ∧ R (Value.int IntKind.i64 n23) h22)
                                                            (∃ (t24 : Bool),
                                                              cell h18 (Addr.add (Addr.mk b7 (0 : Nat) none) (0 : Nat)) = some (Value.bool t24) ∧
                                                                ∃ (n25 : Int),
                                                                  cell h18 (Addr.add (Addr.mk b7 (0 : Nat) none) (2 : Nat)) = some (Value.int IntKind.u32 n25) ∧
                                                                    ∃ (n26 : Int),
                                                                      cell h18 (Addr.add (Addr.mk b7 (0 : Nat) none) (2 : Nat)) = some (Value.int IntKind.u32 n26) ∧
                                                                        CallsH Try.prog n_vault_Vault_save
                                                                          #[Value.pointer v, Value.agg #[Value.bool !t24, Value.int IntKind.u32 n25, Value.int IntKind.u32 n26]] h18
                                                                          fun (v27 : Value) (h28 : Heap) =>
                                                                          ∃ (n29 : Int),
                                                                            v27 = Value.int IntKind.i64 n29 ∧
                                                                              br (n29 != (0 : Int)) (R (Value.int IntKind.i64 n29) h28)
                                                                                (deref v fun (a30 : Addr) =>
                                                                                  storeP none h28 (Addr.mk (Addr.block a30) (Addr.off a30 + (4 : Nat)) none) (Value.pointer p19) fun (h31 : Heap) =>
                                                                                    R (Value.int IntKind.i64 (0 : Int)) h31))))))
theorem C_vault_Vault_Replace (v : Option Addr) (records : Option Addr) (records_l : Nat) (records_c : Nat) {h : Heap} {R : Value → Heap → Prop} (H : F_vault_Vault_Replace v records records_l records_c h R) : CallsH Try.prog n_vault_Vault_Replace [(.pointer v), (.slice records records_l records_c)].toArray h R :=
  fn_sound (A := A_vault_Vault_Replace) (Eq.mp (by kernel_rfl : F_vault_Vault_Replace v records records_l records_c h R = fnVc Go.Proofs.Try.prog A_vault_Vault_Replace 11 [(.pointer v), (.slice records records_l records_c)] h R) H)

/- (*rolodex/vault.Vault).Room -/
def A_vault_Vault_Room : Ann := { qs := [6, 7, 12, 13, 14, 15, 17, 18, 20, 21, 22, 23, 25, 26, 32, 33, 34, 35, 36, 37, 40, 42, 43, 44, 45, 46, 50, 51, 54, 56, 59, 60, 63, 66, 70] }
def F_vault_Vault_Room (v : Option Addr) (h : Heap) (R : Value → Heap → Prop) : Prop :=
  br (Option.isNone v) (R (Value.int IntKind.i64 (0 : Int)) h)
  (deref v fun (a0 : Addr) =>
    ∃ (p1 : Option Addr),
      cell h (Addr.add a0 (4 : Nat)) = some (Value.pointer p1) ∧
        CallsH Try.prog n_wal_Log_Room #[Value.pointer p1] h fun (v2 : Value) (h3 : Heap) => Ext h h3 ∧ ∃ (n4 : Int), v2 = Value.int IntKind.i64 n4 ∧ R (Value.int IntKind.i64 n4) h3)
theorem C_vault_Vault_Room (v : Option Addr) {h : Heap} {R : Value → Heap → Prop} (H : F_vault_Vault_Room v h R) : CallsH Try.prog n_vault_Vault_Room [(.pointer v)].toArray h R :=
  fn_sound (A := A_vault_Vault_Room) (Eq.mp (by kernel_rfl : F_vault_Vault_Room v h R = fnVc Go.Proofs.Try.prog A_vault_Vault_Room 12 [(.pointer v)] h R) H)

/- rolodex/rolodexlaw10.awake -/
def A_law10_awake : Ann := { qs := [6, 7, 12, 13, 14, 15, 17, 18, 20, 21, 22, 23, 25, 26, 32, 33, 34, 35, 36, 37, 40, 42, 43, 44, 45, 46, 50, 51, 54, 56, 59, 60, 63, 66, 70] }
def F_law10_awake (h : Heap) (R : Value → Heap → Prop) : Prop :=
  CallsH Try.prog n_device_New #[Value.int IntKind.i64 (10 : Int)] h fun (v0 : Value) (h1 : Heap) =>
  Ext h h1 ∧
    ∃ (p2 : Option Addr),
      ∃ (n3 : Int),
        v0 = Value.tuple #[Value.pointer p2, Value.int IntKind.i64 n3] ∧
          CallsH Try.prog n_vault_Open #[Value.pointer p2] h1 fun (v4 : Value) (h5 : Heap) =>
            ∃ (p6 : Option Addr),
              ∃ (p7 : Option Addr),
                ∃ (l8 : Nat),
                  ∃ (c9 : Nat),
                    ∃ (n10 : Int),
                      v4 = Value.tuple #[Value.pointer p6, Value.slice p7 l8 c9, Value.int IntKind.i64 n10] ∧
                        br (n10 == (0 : Int))
                          (CallsH Try.prog n_vault_Vault_Space #[Value.pointer p6] h5 fun (v11 : Value) (h12 : Heap) =>
                            Ext h5 h12 ∧
                              ∃ (n13 : Int),
                                v11 = Value.int IntKind.i64 n13 ∧
                                  br (n13 == (4 : Int))
                                    (newBlk h12 (5 : Nat) #[Value.int IntKind.u8 (97 : Int)] fun (b14 : Nat) (h15 : Heap) =>
                                      (∃ (b16 : TypeId),
                                          ∃ (b17 : Nat),
                                            (match h15[Addr.block (Addr.mk b14 (0 : Nat) none)]? with
                                              | some (Obj.cells c' t' frozen) => some (t', Array.size c')
                                              | x => none) =
                                              some (b16, b17)) ∧
                                        ∀ (h18 : Heap),
                                          h18 = markH h15 (Addr.mk b14 (0 : Nat) none) →
                                            CallsH Try.prog n_vault_Vault_Append #[Value.pointer p6, Value.slice (some (Addr.mk b14 (0 : Nat) none)) (1 : Nat) (1 : Nat)] h18 fun (v19 : Value) (h20 : Heap) =>
                                              ∃ (n21 : Int),
                                                v19 = Value.int IntKind.i64 n21 ∧
                                                  br (n21 == (0 : Int))
                                                    (CallsH Try.prog n_vault_Vault_Flush #[Value.pointer p6] h20 fun (v22 : Value) (h23 : Heap) =>
                                                      ∃ (n24 : Int),
                                                        v22 = Value.int IntKind.i64 n24 ∧
                                                          br (n24 == (0 : Int))
                                                            (CallsH Try.prog n_vault_Vault_Room #[Value.pointer p6] h23 fun (v25 : Value) (h26 : Heap) =>
                                                              Ext h23 h26 ∧ ∃ (n27 : Int), v25 = Value.int IntKind.i64 n27 ∧ R (Value.bool (n27 == (3 : Int))) h26)
                                                            (R (Value.bool false) h23))
                                                    (R (Value.bool false) h20))
                                    (R (Value.bool false) h12))
                          (R (Value.bool false) h5)
theorem C_law10_awake {h : Heap} {R : Value → Heap → Prop} (H : F_law10_awake h R) : CallsH Try.prog n_law10_awake [].toArray h R :=
  fn_sound (A := A_law10_awake) (Eq.mp (by kernel_rfl : F_law10_awake h R = fnVc Go.Proofs.Try.prog A_law10_awake 6 [] h R) H)

/- rolodex/rolodexlaw10.Few -/
def A_law10_Few : Ann := { qs := [6, 7, 12, 13, 14, 15, 17, 18, 20, 21, 22, 23, 25, 26, 32, 33, 34, 35, 36, 37, 40, 42, 43, 44, 45, 46, 50, 51, 54, 56, 59, 60, 63, 66, 70], loops := [(2, [(5, (.int .i64))])] }
def F_law10_Few (l : Option Addr) (l_l : Nat) (l_c : Nat) (n : Int) (h : Heap) (R : Value → Heap → Prop) : Prop :=
  ∃ (I0 : Int → Heap → Prop),
  ∃ (μ1 : Int → Heap → Nat),
    I0 (0 : Int) h ∧
      ∀ (n2 : Int) (h3 : Heap),
        I0 n2 h3 →
          br (decide (n2 < (↑l_l : Int)))
            (br (decide (n2 < (200 : Int)))
              ((0 : Int) ≤ n2 ∧
                n2 < (↑l_l : Int) ∧
                  deref l fun (a4 : Addr) =>
                    ∃ (p5 : Option Addr),
                      ∃ (l6 : Nat),
                        ∃ (c7 : Nat),
                          cell h3 (Addr.add (Addr.add a4 (Int.toNat n2 * (4 : Nat))) (2 : Nat)) = some (Value.slice p5 l6 c7) ∧
                            CallsH Try.prog n_ref02_Few #[Value.slice p5 l6 c7, Value.int IntKind.i64 (10 : Int), Value.int IntKind.i64 (7000 : Int)] h3 fun (v8 : Value) (h9 : Heap) =>
                              Ext h3 h9 ∧
                                ∃ (t10 : Bool),
                                  v8 = Value.bool t10 ∧
                                    br (!t10) (R (Value.bool false) h9)
                                      ((0 : Int) ≤ n2 ∧
                                        n2 < (↑l_l : Int) ∧
                                          deref l fun (a11 : Addr) =>
                                            ∃ (p12 : Option Addr),
                                              ∃ (l13 : Nat),
                                                ∃ (c14 : Nat),
                                                  cell h9 (Addr.add (Addr.add a11 (Int.toNat n2 * (4 : Nat))) (3 : Nat)) = some (Value.slice p12 l13 c14) ∧
                                                    br (decide ((↑l13 : Int) > (200 : Int))) (R (Value.bool false) h9)
                                                      (I0 (IntKind.wrap IntKind.i64 (n2 + (1 : Int))) h9 ∧ μ1 (IntKind.wrap IntKind.i64 (n2 + (1 : Int))) h9 < μ1 n2 h3)))
              (R (Value.bool (decide ((↑l_l : Int) ≤ n))) h3))
            (R (Value.bool (decide ((↑l_l : Int) ≤ n))) h3)
theorem C_law10_Few (l : Option Addr) (l_l : Nat) (l_c : Nat) (n : Int) {h : Heap} {R : Value → Heap → Prop} (H : F_law10_Few l l_l l_c n h R) : CallsH Try.prog n_law10_Few [(.slice l l_l l_c), (.int .i64 n)].toArray h R :=
  fn_sound (A := A_law10_Few) (Eq.mp (by kernel_rfl : F_law10_Few l l_l l_c n h R = fnVc Go.Proofs.Try.prog A_law10_Few 14 [(.slice l l_l l_c), (.int .i64 n)] h R) H)

/- rolodex/rolodexlaw10.record -/
def A_law10_record : Ann := { qs := [6, 7, 12, 13, 14, 15, 17, 18, 20, 21, 22, 23, 25, 26, 32, 33, 34, 35, 36, 37, 40, 42, 43, 44, 45, 46, 50, 51, 54, 56, 59, 60, 63, 66, 70] }
def F_law10_record (o : Array Value) (h : Heap) (R : Value → Heap → Prop) : Prop :=
  newBlk h (41 : Nat) o fun (b0 : Nat) (h1 : Heap) =>
  ∃ (p2 : Option Addr),
    ∃ (l3 : Nat),
      ∃ (c4 : Nat),
        cell h1 (Addr.add (Addr.mk b0 (0 : Nat) none) (2 : Nat)) = some (Value.slice p2 l3 c4) ∧
          br ((↑l3 : Int) == (0 : Int)) (R (Value.slice none (0 : Nat) (0 : Nat)) h1)
            (∃ (p5 : Option Addr),
              ∃ (l6 : Nat),
                ∃ (c7 : Nat),
                  cell h1 (Addr.add (Addr.mk b0 (0 : Nat) none) (2 : Nat)) = some (Value.slice p5 l6 c7) ∧
                    (0 : Int) ≤ (0 : Int) ∧
                      (0 : Int) < (↑l6 : Int) ∧
                        deref p5 fun (a8 : Addr) => ∃ (p9 : Option Addr), ∃ (l10 : Nat), ∃ (c11 : Nat), cell h1 (Addr.add a8 (0 : Nat)) = some (Value.slice p9 l10 c11) ∧ R (Value.slice p9 l10 c11) h1)
theorem C_law10_record (o : Array Value) {h : Heap} {R : Value → Heap → Prop} (H : F_law10_record o h R) : CallsH Try.prog n_law10_record [(.agg o)].toArray h R :=
  fn_sound (A := A_law10_record) (Eq.mp (by kernel_rfl : F_law10_record o h R = fnVc Go.Proofs.Try.prog A_law10_record 18 [(.agg o)] h R) H)

/- rolodex/rolodexlaw10.VaultNone -/
def A_law10_VaultNone : Ann := { qs := [6, 7, 12, 13, 14, 15, 17, 18, 20, 21, 22, 23, 25, 26, 32, 33, 34, 35, 36, 37, 40, 42, 43, 44, 45, 46, 50, 51, 54, 56, 59, 60, 63, 66, 70] }
def F_law10_VaultNone (pages : Int) (b : Option Addr) (b_l : Nat) (b_c : Nat) (h : Heap) (R : Value → Heap → Prop) : Prop :=
  CallsH Try.prog n_law10_awake #[] h fun (v0 : Value) (h1 : Heap) =>
  Ext h h1 ∧
    ∃ (t2 : Bool),
      v0 = Value.bool t2 ∧
        br (!t2) (CallsH Try.prog n_law10_awake #[] h1 fun (v3 : Value) (h4 : Heap) => Ext h1 h4 ∧ ∃ (t5 : Bool), v3 = Value.bool t5 ∧ R (Value.bool t5) h4)
          (br (decide ((↑b_l : Int) > (300 : Int))) (CallsH Try.prog n_law10_awake #[] h1 fun (v6 : Value) (h7 : Heap) => Ext h1 h7 ∧ ∃ (t8 : Bool), v6 = Value.bool t8 ∧ R (Value.bool t8) h7)
            ((9 : Int) ≠ (0 : Int) ∧
              CallsH Try.prog n_device_New #[Value.int IntKind.i64 (IntKind.wrap IntKind.i64 (Int.tmod pages (9 : Int)))] h1 fun (v9 : Value) (h10 : Heap) =>
                Ext h1 h10 ∧
                  ∃ (p11 : Option Addr),
                    ∃ (n12 : Int),
                      v9 = Value.tuple #[Value.pointer p11, Value.int IntKind.i64 n12] ∧
                        CallsH Try.prog n_vault_Open #[Value.pointer p11] h10 fun (v13 : Value) (h14 : Heap) =>
                          ∃ (p15 : Option Addr),
                            ∃ (p16 : Option Addr),
                              ∃ (l17 : Nat),
                                ∃ (c18 : Nat),
                                  ∃ (n19 : Int),
                                    v13 = Value.tuple #[Value.pointer p15, Value.slice p16 l17 c18, Value.int IntKind.i64 n19] ∧
                                      CallsH Try.prog n_vault_Open #[Value.pointer none] h14 fun (v20 : Value) (h21 : Heap) =>
                                        ∃ (p22 : Option Addr),
                                          ∃ (p23 : Option Addr),
                                            ∃ (l24 : Nat),
                                              ∃ (c25 : Nat),
                                                ∃ (n26 : Int),
                                                  v20 = Value.tuple #[Value.pointer p22, Value.slice p23 l24 c25, Value.int IntKind.i64 n26] ∧
                                                    br ((n19 == (0 : Int)) == decide (IntKind.wrap IntKind.i64 (Int.tmod pages (9 : Int)) ≥ (4 : Int)))
                                                      (br ((n19 == (1 : Int)) == decide (IntKind.wrap IntKind.i64 (Int.tmod pages (9 : Int)) < (4 : Int)))
                                                        (br (Option.isNone p15 == decide (IntKind.wrap IntKind.i64 (Int.tmod pages (9 : Int)) < (4 : Int)))
                                                          (br ((↑l17 : Int) == (0 : Int))
                                                            (br (Option.isNone p22)
                                                              (br (n26 == (1 : Int))
                                                                (CallsH Try.prog n_vault_Vault_Append #[Value.pointer none, Value.slice b b_l b_c] h21 fun (v27 : Value) (h28 : Heap) =>
                                                                  ∃ (n29 : Int),
                                                                    v27 = Value.int IntKind.i64 n29 ∧
                                                                      br (n29 == (6 : Int))
                                                                        (CallsH Try.prog n_vault_Vault_Flush #[Value.pointer none] h28 fun (v30 : Value) (h31 : Heap) =>
                                                                          ∃ (n32 : Int),
                                                                            v30 = Value.int IntKind.i64 n32 ∧
                                                                              br (n32 == (6 : Int))
                                                                                (CallsH Try.prog n_vault_Vault_Replace #[Value.pointer none, Value.slice none (0 : Nat) (0 : Nat)] h31
                                                                                  fun (v33 : Value) (h34 : Heap) =>
                                                                                  ∃ (n35 : Int),
                                                                                    v33 = Value.int IntKind.i64 n35 ∧
                                                                                      br (n35 == (6 : Int))
                                                                                        (CallsH Try.prog n_vault_Vault_Room #[Value.pointer none] h34 fun (v36 : Value) (h37 : Heap) =>
                                                                                          Ext h34 h37 ∧
                                                                                            ∃ (n38 : Int),
                                                                                              v36 = Value.int IntKind.i64 n38 ∧
                                                                                                br (n38 == (0 : Int))
                                                                                                  (CallsH Try.prog n_vault_Vault_Space #[Value.pointer none] h37 fun (v39 : Value) (h40 : Heap) =>
                                                                                                    Ext h37 h40 ∧
                                                                                                      ∃ (n41 : Int), v39 = Value.int IntKind.i64 n41 ∧ R (Value.bool (n41 == (0 : Int))) h40)
                                                                                                  (R (Value.bool false) h37))
                                                                                        (R (Value.bool false) h34))
                                                                                (R (Value.bool false) h31))
                                                                        (R (Value.bool false) h28))
                                                                (R (Value.bool false) h21))
                                                              (R (Value.bool false) h21))
                                                            (R (Value.bool false) h21))
                                                          (R (Value.bool false) h21))
                                                        (R (Value.bool false) h21))
                                                      (R (Value.bool false) h21)))
theorem C_law10_VaultNone (pages : Int) (b : Option Addr) (b_l : Nat) (b_c : Nat) {h : Heap} {R : Value → Heap → Prop} (H : F_law10_VaultNone pages b b_l b_c h R) : CallsH Try.prog n_law10_VaultNone [(.int .u8 pages), (.slice b b_l b_c)].toArray h R :=
  fn_sound (A := A_law10_VaultNone) (Eq.mp (by kernel_rfl : F_law10_VaultNone pages b b_l b_c h R = fnVc Go.Proofs.Try.prog A_law10_VaultNone 3 [(.int .u8 pages), (.slice b b_l b_c)] h R) H)

end Go.Proofs.Ytbmhphnidfpclaa
