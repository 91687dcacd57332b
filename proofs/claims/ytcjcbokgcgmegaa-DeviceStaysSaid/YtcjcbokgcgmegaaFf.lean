/- The formulas of some functions, and that each is what its code comes to. Written by a program of ours. -/
import Derived.Test.YtcjcbokgcgmegaaVcO
import Derived.Test.YtcjcbokgcgmegaaNm
import Derived.Test.YtcjcbokgcgmegaaProg
import Derived.KernelRfl
set_option linter.unusedVariables false
set_option maxRecDepth 100000
namespace Go.Proofs.Ytcjcbokgcgmegaa.R
open Go Go.Vc Go.Proofs

/- rolodex/rolodexlaw07.DevicePlays -/
def A_law07_DevicePlays : Ann := { qs := [8, 9, 12, 13, 15, 17, 19, 22, 23, 24, 26, 31], loops := [(9, [(9, (.int .i64))]), (16, [(14, (.int .i64))])], plans := [(13, (.take 0 (.take 1 (.take 2 (.take 3 (.take 4 (.take 5 (.alt 6 (.take 7 (.take 8 (.take 9 (.take 10 (.take 12 (.take 13 (.take 14 (.take 15 (.alt 11 (.take 16 (.take 17 (.take 18 (.take 19 (.take 21 (.take 22 (.take 23 (.take 24 (.take 25 (.alt 20 (.take 26 (.take 27 .done)) .stop)))))))))) .stop))))))))) .stop))))))))] }
def F_law07_DevicePlays (pages : Int) (script : Option Addr) (script_l : Nat) (script_c : Nat) (h : Heap) (R : Value → Heap → Prop) : Prop :=
  CallsH Try.prog n_law07_awake #[] h fun (v0 : Value) (h1 : Heap) =>
  Ext h h1 ∧
    ∃ (t2 : Bool),
      v0 = Value.bool t2 ∧
        br (!t2) (CallsH Try.prog n_law07_awake #[] h1 fun (v3 : Value) (h4 : Heap) => Ext h1 h4 ∧ ∃ (t5 : Bool), v3 = Value.bool t5 ∧ R (Value.bool t5) h4)
          (CallsH Try.prog n_ref07_Few #[Value.slice script script_l script_c, Value.int IntKind.i64 (80 : Int)] h1 fun (v6 : Value) (h7 : Heap) =>
            Ext h1 h7 ∧
              ∃ (t8 : Bool),
                v6 = Value.bool t8 ∧
                  br (!t8) (CallsH Try.prog n_law07_awake #[] h7 fun (v9 : Value) (h10 : Heap) => Ext h7 h10 ∧ ∃ (t11 : Bool), v9 = Value.bool t11 ∧ R (Value.bool t11) h10)
                    ((13 : Int) ≠ (0 : Int) ∧
                      CallsH Try.prog n_device_New #[Value.int IntKind.i64 (IntKind.wrap IntKind.i64 (Int.tmod pages (13 : Int)))] h7 fun (v12 : Value) (h13 : Heap) =>
                        Ext h7 h13 ∧
                          ∃ (p14 : Option Addr),
                            ∃ (n15 : Int),
                              v12 = Value.tuple #[Value.pointer p14, Value.int IntKind.i64 n15] ∧
                                CallsH Try.prog n_ref07_New #[Value.int IntKind.i64 (IntKind.wrap IntKind.i64 (Int.tmod pages (13 : Int)))] h13 fun (v16 : Value) (h17 : Heap) =>
                                  ∃ (p18 : Option Addr),
                                    v16 = Value.pointer p18 ∧
                                      br (n15 != (0 : Int)) (R (Value.bool false) h17)
                                        (CallsH Try.prog n_device_Device_Pages #[Value.pointer p14] h17 fun (v19 : Value) (h20 : Heap) =>
                                          Ext h17 h20 ∧
                                            ∃ (n21 : Int),
                                              v19 = Value.int IntKind.i64 n21 ∧
                                                br (n21 != IntKind.wrap IntKind.i64 (Int.tmod pages (13 : Int))) (R (Value.bool false) h20)
                                                  (∃ (I22 : Int → Heap → Prop),
                                                    ∃ (μ23 : Int → Heap → Nat),
                                                      I22 (0 : Int) h20 ∧
                                                        ∀ (n24 : Int) (h25 : Heap),
                                                          I22 n24 h25 →
                                                            br (decide (n24 < (↑script_l : Int)))
                                                              ((0 : Int) ≤ n24 ∧
                                                                n24 < (↑script_l : Int) ∧
                                                                  deref script fun (a26 : Addr) =>
                                                                    ∃ (cs27 : Array Value),
                                                                      row h25 (Addr.add a26 (Int.toNat n24 * (4 : Nat))) (4 : Nat) = some cs27 ∧
                                                                        CallsH Try.prog n_law07_do #[Value.pointer p14, Value.agg cs27] h25 fun (v28 : Value) (h29 : Heap) =>
                                                                          ∃ (p30 : Option Addr),
                                                                            ∃ (l31 : Nat),
                                                                              ∃ (c32 : Nat),
                                                                                ∃ (n33 : Int),
                                                                                  v28 = Value.tuple #[Value.slice p30 l31 c32, Value.int IntKind.i64 n33] ∧
                                                                                    (0 : Int) ≤ n24 ∧
                                                                                      n24 < (↑script_l : Int) ∧
                                                                                        deref script fun (a34 : Addr) =>
                                                                                          ∃ (cs35 : Array Value),
                                                                                            row h29 (Addr.add a34 (Int.toNat n24 * (4 : Nat))) (4 : Nat) = some cs35 ∧
                                                                                              CallsH Try.prog n_ref07_Device_Do #[Value.pointer p18, Value.agg cs35] h29 fun (v36 : Value) (h37 : Heap) =>
                                                                                                ∃ (p38 : Option Addr),
                                                                                                  ∃ (l39 : Nat),
                                                                                                    ∃ (c40 : Nat),
                                                                                                      ∃ (n41 : Int),
                                                                                                        v36 = Value.tuple #[Value.slice p38 l39 c40, Value.int IntKind.i64 n41] ∧
                                                                                                          br (n33 != n41) (R (Value.bool false) h37)
                                                                                                            (CallsH Try.prog n_ref01_Same #[Value.slice p30 l31 c32, Value.slice p38 l39 c40] h37
                                                                                                              fun (v42 : Value) (h43 : Heap) =>
                                                                                                              Ext h37 h43 ∧
                                                                                                                ∃ (t44 : Bool),
                                                                                                                  v42 = Value.bool t44 ∧
                                                                                                                    br (!t44) (R (Value.bool false) h43)
                                                                                                                      (deref p18 fun (a45 : Addr) =>
                                                                                                                        ∃ (t46 : Bool),
                                                                                                                          cell h43 (Addr.add a45 (3 : Nat)) = some (Value.bool t46) ∧
                                                                                                                            CallsH Try.prog n_device_Device_Down #[Value.pointer p14] h43
                                                                                                                              fun (v47 : Value) (h48 : Heap) =>
                                                                                                                              Ext h43 h48 ∧
                                                                                                                                ∃ (t49 : Bool),
                                                                                                                                  v47 = Value.bool t49 ∧
                                                                                                                                    br (!t49 == t46) (R (Value.bool false) h48)
                                                                                                                                      (deref p18 fun (a50 : Addr) =>
                                                                                                                                        ∃ (p51 : Option Addr),
                                                                                                                                          ∃ (l52 : Nat),
                                                                                                                                            ∃ (c53 : Nat),
                                                                                                                                              cell h48 (Addr.add a50 (1 : Nat)) =
                                                                                                                                                  some (Value.slice p51 l52 c53) ∧
                                                                                                                                                CallsH Try.prog n_device_Device_Waits #[Value.pointer p14] h48
                                                                                                                                                  fun (v54 : Value) (h55 : Heap) =>
                                                                                                                                                  Ext h48 h55 ∧
                                                                                                                                                    ∃ (n56 : Int),
                                                                                                                                                      v54 = Value.int IntKind.i64 n56 ∧
                                                                                                                                                        br (n56 != (↑l52 : Int))
                                                                                                                                                          (R (Value.bool false) h55)
                                                                                                                                                          (∃ (I57 : Int → Heap → Prop),
                                                                                                                                                            ∃ (μ58 : Int → Heap → Nat),
                                                                                                                                                              I57 (-1 : Int) h55 ∧
                                                                                                                                                                ∀ (n59 : Int) (h60 : Heap),
                                                                                                                                                                  I57 n59 h60 →
                                                                                                                                                                    br
                                                                                                                                                                      (decide
                                                                                                                                                                        (n59 ≤
                                                                                                                                                                          IntKind.wrap IntKind.i64
                                                                                                                                                                            (Int.tmod pages
                                                                                                                                                                              (13 : Int))))
                                                                                                                                                                      (CallsH Try.prog n_device_Device_Read
                                                                                                                                                                        #[Value.pointer p14,
                                                                                                                                                                          Value.int IntKind.i64 n59]
                                                                                                                                                                        h60
                                                                                                                                                                        fun (v61 : Value)
                                                                                                                                                                          (h62 : Heap) =>
                                                                                                                                                                        Ext h60 h62 ∧
                                                                                                                                                                          ∃ (p63 : Option Addr),
                                                                                                                                                                            ∃ (l64 : Nat),
                                                                                                                                                                              ∃ (c65 : Nat),
                                                                                                                                                                                ∃ (n66 : Int),
                                                                                                                                                                                  v61 =
                                                                                                                                                                                      Value.tuple
                                                                                                                                                                                        #[Value.slice
                                                                                                                                                                                            p63 l64 c65,
                                                                                                                                                                                          Value.int
                                                                                                                                                                                            IntKind.i64
                                                                                                                                                                                            n66] ∧
                                                                                                                                                                                    CallsH Try.prog
                                                                                                                                                                                      (23 : Nat)
                                                                                                                                                                                      #[Value.pointer
                                                                                                                                                                                          p18,
                                                                                                                                                                                        Value.int
                                                                                                                                                                                          IntKind.i64
                                                                                                                                                                                          n59]
                                                                                                                                                                                      h62
                                                                                                                                                                                      fun (v67 : Value)
                                                                                                                                                                                        (h68 : Heap) =>
                                                                                                                                                                                      Ext h62 h68 ∧
                                                                                                                                                                                        ∃ (p69 :
                                                                                                                                                                                          Option Addr),
                                                                                                                                                                                          ∃ (l70 : Nat),
                                                                                                                                                                                            ∃ (c71 :
                                                                                                                                                                                              Nat),
                                                                                                                                                                                              ∃ (n72 :
                                                                                                                                                                                                Int),
                                                                                                                                                                                                v67 =
                                                                                                                                                                                                    Value.tuple
                                                                                                                                                                                                      #[Value.slice
                                                                                                                                                                                                          p69
                                                                                                                                                                                                          l70
                                                                                                                                                                                                          c71,
                                                                                                                                                                                                        Value.int
                                                                                                                                                                                                          IntKind.i64
                                                                                                                                                                                                          n72] ∧
                                                                                                                                                                                                  br
                                                                                                                                                                                                    (n66 !=
                                                                                                                                                                                                      n72)
                                                                                                                                                                                                    (R
                                                                                                                                                                                                      (Value.bool
                                                                                                                                                                                                        false)
                                                                                                                                                                                                      h68)
                                                                                                                                                                                                    (CallsH
                                                                                                                                                                                                      Try.prog
                                                                                                                                                                                                      (13 :
                                                                                                                                                                                                        Nat)
                                                                                                                                                                                                      #[Value.slice
                                                                                                                                                                                                          p63
                                                                                                                                                                                                          l64
                                                                                                                                                                                                          c65,
                                                                                                                                                                                                        Value.slice
                                                                                                                                                                                                          p69
                                                                                                                                                                                                          l70
                                                                                                                                                                                                          c71]
                                                                                                                                                                                                      h68
                                                                                                                                                                                                      fun
                                                                                                                                                                                                        (v73 :
                                                                                                                                                                                                          Value)
                                                                                                                                                                                                        (h74 :
                                                                                                                                                                                                          Heap) =>
                                                                                                                                                                                                      Ext
                                                                                                                                                                                                          h68
                                                                                                                                                                                                          h74 ∧
                                                                                                                                                                                                        ∃
                                                                                                                                                                                                          (t75
                                                                                                                                                                                                          :
                                                                                                                                                                                                          Bool),
                                                                                                                                                                                                          v73 =
                                                                                                                                                                                                              Value.bool
                                                                                                                                                                                                                t75 ∧
                                                                                                                                                                                                            br
                                                                                                                                                                                                              (!t75)
                                                                                                                                                                                                              (R
                                                                                                                                                                                                                (Value.bool
                                                                                                                                                                                                                  false)
                                                                                                                                                                                                                h74)
                                                                                                                                                                                                              (I57
                                                                                                                                                                                                                  (IntKind.wrap
                                                                                                                                                                                                                    IntKind.i64
                                                                                                                                                                                                                    (n59 +
                                                                                                                                                                                                                      (1 :
                                                                                                                                                                                                                        Int)))
                                                                                                                                                                                                                  h74 ∧
                                                                                                                                                                                                                μ58
                                                                                                                                                                                                                    (IntKind.wrap
                                                                                                                                                                                                                      IntKind.i64
                                                                                                                                                                                                                      (n59 +
                                                                                                                                                                                                                        (1 :
                                                                                                                                                                                                                          Int)))
                                                                                                                                                                                                                    h74 <
                                                                                                                                                                                                                  μ58
                                                                                                                                                                                                                    n59
                                                                                                                                                                                                                    h60)))
                                                                                                                                                                      (I22
                                                                                                                                                                          (IntKind.wrap IntKind.i64
                                                                                                                                                                            (n24 + (1 : Int)))
                                                                                                                                                                          h60 ∧
                                                                                                                                                                        μ23
                                                                                                                                                                            (IntKind.wrap IntKind.i64
                                                                                                                                                                              (n24 + (1 : Int)))
                                                                                                                                                                            h60 <
                                                                                                                                                                          μ23 n24 h25))))))
                                                              (R (Value.bool true) h25)))))
theorem C_law07_DevicePlays (pages : Int) (script : Option Addr) (script_l : Nat) (script_c : Nat) {h : Heap} {R : Value → Heap → Prop} (H : F_law07_DevicePlays pages script script_l script_c h R) : CallsH Try.prog n_law07_DevicePlays [(.int .u8 pages), (.slice script script_l script_c)].toArray h R :=
  fn_sound (A := A_law07_DevicePlays) (Eq.mp (by kernel_rfl : F_law07_DevicePlays pages script script_l script_c h R = fnVc Go.Proofs.Try.prog A_law07_DevicePlays 5 [(.int .u8 pages), (.slice script script_l script_c)] h R) H)

end Go.Proofs.Ytcjcbokgcgmegaa.R
