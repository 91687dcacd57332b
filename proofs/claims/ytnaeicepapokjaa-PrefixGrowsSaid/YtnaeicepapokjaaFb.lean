/- The formulas of some functions, and that each is what its code comes to. Written by a program of ours. -/
import Derived.Test.YtnaeicepapokjaaVcO
import Derived.Test.YtnaeicepapokjaaNm
import Derived.Test.YtnaeicepapokjaaProg
import Derived.KernelRfl
set_option linter.unusedVariables false
set_option maxRecDepth 100000
namespace Go.Proofs.Ytnaeicepapokjaa
open Go Go.Vc Go.Proofs

/- rolodex/rolodexlaw03.awake -/
def A_law03_awake : Ann := { qs := [9, 10, 11, 12, 13, 14, 15, 16, 17, 18, 19, 20, 21, 22, 23, 24, 25, 26, 27, 28, 29, 30, 32] }
def F_law03_awake (h : Heap) (R : Value → Heap → Prop) : Prop :=
  CallsH Try.prog n_prefix_Bit #[Value.agg (List.toArray (Value.int IntKind.u8 (64 : Int) :: List.replicate (31 : Nat) (Value.int IntKind.u8 (0 : Int)))), Value.int IntKind.i64 (1 : Int)] h
  fun (v0 : Value) (h1 : Heap) =>
  Ext h h1 ∧
    ∃ (n2 : Int),
      v0 = Value.int IntKind.i64 n2 ∧
        br (n2 == (1 : Int))
          (CallsH Try.prog n_prefix_Formed #[Value.agg (List.toArray (Value.int IntKind.i64 (0 : Int) :: List.replicate (32 : Nat) (Value.int IntKind.u8 (0 : Int))))] h1 fun (v3 : Value) (h4 : Heap) =>
            Ext h1 h4 ∧ ∃ (t5 : Bool), v3 = Value.bool t5 ∧ R (Value.bool t5) h4)
          (R (Value.bool false) h1)
theorem C_law03_awake {h : Heap} {R : Value → Heap → Prop} (H : F_law03_awake h R) : CallsH Try.prog n_law03_awake [].toArray h R :=
  fn_sound (A := A_law03_awake) (Eq.mp (by kernel_rfl : F_law03_awake h R = fnVc Go.Proofs.Try.prog A_law03_awake 10 [] h R) H)

/- rolodex/rolodexlaw03.PrefixOrder -/
def A_law03_PrefixOrder : Ann := { qs := [9, 10, 11, 12, 13, 14, 15, 16, 17, 18, 19, 20, 21, 22, 23, 24, 25, 26, 27, 28, 29, 30, 32], plans := [(1, (.take 0 (.take 1 (.take 3 (.take 4 (.take 6 (.take 7 (.alt 2 (.alt 5 (.alt 8 (.take 9 (.take 10 (.take 11 .done))) .stop) .stop) .stop)))))))), (2, (.alt 0 (.take 1 (.take 2 (.take 3 (.take 4 (.take 5 (.take 6 (.take 7 (.take 8 (.take 9 (.alt 10 (.take 11 (.take 12 (.take 13 (.take 14 (.take 15 (.take 16 (.take 17 (.take 18 (.take 19 (.alt 20 (.take 21 (.take 22 (.take 23 (.take 24 (.take 25 (.take 26 (.take 27 (.take 28 (.take 29 (.take 30 (.take 31 (.take 32 (.take 33 (.take 34 (.take 35 (.take 36 (.take 37 (.alt 38 (.take 39 (.take 40 (.take 41 .done))) .stop)))))))))))))))))) .stop)))))))))) .stop)))))))))) .stop))] }
def F_law03_PrefixOrder (a : Array Value) (b : Array Value) (c : Array Value) (h : Heap) (R : Value → Heap → Prop) : Prop :=
  newBlk h (23 : Nat) a fun (b0 : Nat) (h1 : Heap) =>
  newBlk h1 (23 : Nat) b fun (b2 : Nat) (h3 : Heap) =>
    newBlk h3 (23 : Nat) c fun (b4 : Nat) (h5 : Heap) =>
      ∃ (cs6 : Array Value),
        row h5 (Addr.mk b0 (0 : Nat) none) (32 : Nat) = some cs6 ∧
          ∃ (cs7 : Array Value),
            row h5 (Addr.mk b2 (0 : Nat) none) (32 : Nat) = some cs7 ∧
              ∃ (cs8 : Array Value),
                row h5 (Addr.mk b2 (0 : Nat) none) (32 : Nat) = some cs8 ∧
                  ∃ (cs9 : Array Value),
                    row h5 (Addr.mk b4 (0 : Nat) none) (32 : Nat) = some cs9 ∧
                      ∃ (cs10 : Array Value),
                        row h5 (Addr.mk b0 (0 : Nat) none) (32 : Nat) = some cs10 ∧
                          ∃ (cs11 : Array Value),
                            row h5 (Addr.mk b4 (0 : Nat) none) (32 : Nat) = some cs11 ∧
                              CallsH Try.prog n_prefix_Less #[Value.agg cs6, Value.agg cs7] h5 fun (v12 : Value) (h13 : Heap) =>
                                Ext h5 h13 ∧
                                  ∃ (t14 : Bool),
                                    v12 = Value.bool t14 ∧
                                      CallsH Try.prog n_prefix_Less #[Value.agg cs8, Value.agg cs9] h13 fun (v15 : Value) (h16 : Heap) =>
                                        Ext h13 h16 ∧
                                          ∃ (t17 : Bool),
                                            v15 = Value.bool t17 ∧
                                              CallsH Try.prog n_prefix_Less #[Value.agg cs10, Value.agg cs11] h16 fun (v18 : Value) (h19 : Heap) =>
                                                Ext h16 h19 ∧
                                                  ∃ (t20 : Bool),
                                                    v18 = Value.bool t20 ∧
                                                      CallsH Try.prog n_law03_awake #[] h19 fun (v21 : Value) (h22 : Heap) =>
                                                        Ext h19 h22 ∧
                                                          ∃ (t23 : Bool),
                                                            v21 = Value.bool t23 ∧
                                                              br t23
                                                                (∃ (cs24 : Array Value),
                                                                  row h22 (Addr.mk b0 (0 : Nat) none) (32 : Nat) = some cs24 ∧
                                                                    ∃ (cs25 : Array Value),
                                                                      row h22 (Addr.mk b2 (0 : Nat) none) (32 : Nat) = some cs25 ∧
                                                                        eqAgg Try.prog (23 : Nat) cs24 cs25 fun (t26 : Bool) =>
                                                                          br (!t14)
                                                                            (∃ (cs27 : Array Value),
                                                                              row h22 (Addr.mk b2 (0 : Nat) none) (32 : Nat) = some cs27 ∧
                                                                                ∃ (cs28 : Array Value),
                                                                                  row h22 (Addr.mk b0 (0 : Nat) none) (32 : Nat) = some cs28 ∧
                                                                                    CallsH Try.prog n_prefix_Less #[Value.agg cs27, Value.agg cs28] h22 fun (v29 : Value) (h30 : Heap) =>
                                                                                      Ext h22 h30 ∧
                                                                                        ∃ (t31 : Bool),
                                                                                          v29 = Value.bool t31 ∧
                                                                                            br (t26 == !t31)
                                                                                              (br t14
                                                                                                (∃ (cs32 : Array Value),
                                                                                                  row h30 (Addr.mk b2 (0 : Nat) none) (32 : Nat) = some cs32 ∧
                                                                                                    ∃ (cs33 : Array Value),
                                                                                                      row h30 (Addr.mk b0 (0 : Nat) none) (32 : Nat) = some cs33 ∧
                                                                                                        CallsH Try.prog n_prefix_Less #[Value.agg cs32, Value.agg cs33] h30
                                                                                                          fun (v34 : Value) (h35 : Heap) =>
                                                                                                          Ext h30 h35 ∧
                                                                                                            ∃ (t36 : Bool),
                                                                                                              v34 = Value.bool t36 ∧
                                                                                                                br (!t36)
                                                                                                                  (br (!t14)
                                                                                                                    (∃ (cs37 : Array Value),
                                                                                                                      row h35 (Addr.mk b0 (0 : Nat) none) (32 : Nat) = some cs37 ∧
                                                                                                                        ∃ (cs38 : Array Value),
                                                                                                                          row h35 (Addr.mk b0 (0 : Nat) none) (32 : Nat) = some cs38 ∧
                                                                                                                            CallsH Try.prog n_prefix_Less #[Value.agg cs37, Value.agg cs38] h35
                                                                                                                              fun (v39 : Value) (h40 : Heap) =>
                                                                                                                              Ext h35 h40 ∧
                                                                                                                                ∃ (t41 : Bool), v39 = Value.bool t41 ∧ R (Value.bool !t41) h40)
                                                                                                                    (br (!t17)
                                                                                                                      (∃ (cs42 : Array Value),
                                                                                                                        row h35 (Addr.mk b0 (0 : Nat) none) (32 : Nat) = some cs42 ∧
                                                                                                                          ∃ (cs43 : Array Value),
                                                                                                                            row h35 (Addr.mk b0 (0 : Nat) none) (32 : Nat) = some cs43 ∧
                                                                                                                              CallsH Try.prog n_prefix_Less #[Value.agg cs42, Value.agg cs43] h35
                                                                                                                                fun (v44 : Value) (h45 : Heap) =>
                                                                                                                                Ext h35 h45 ∧
                                                                                                                                  ∃ (t46 : Bool), v44 = Value.bool t46 ∧ R (Value.bool !t46) h45)
                                                                                                                      (br t20
                                                                                                                        (∃ (cs47 : Array Value),
                                                                                                                          row h35 (Addr.mk b0 (0 : Nat) none) (32 : Nat) = some cs47 ∧
                                                                                                                            ∃ (cs48 : Array Value),
                                                                                                                              row h35 (Addr.mk b0 (0 : Nat) none) (32 : Nat) = some cs48 ∧
                                                                                                                                CallsH Try.prog n_prefix_Less #[Value.agg cs47, Value.agg cs48] h35
                                                                                                                                  fun (v49 : Value) (h50 : Heap) =>
                                                                                                                                  Ext h35 h50 ∧
                                                                                                                                    ∃ (t51 : Bool), v49 = Value.bool t51 ∧ R (Value.bool !t51) h50)
                                                                                                                        (R (Value.bool false) h35))))
                                                                                                                  (R (Value.bool false) h35))
                                                                                                (br (!t14)
                                                                                                  (∃ (cs52 : Array Value),
                                                                                                    row h30 (Addr.mk b0 (0 : Nat) none) (32 : Nat) = some cs52 ∧
                                                                                                      ∃ (cs53 : Array Value),
                                                                                                        row h30 (Addr.mk b0 (0 : Nat) none) (32 : Nat) = some cs53 ∧
                                                                                                          CallsH Try.prog n_prefix_Less #[Value.agg cs52, Value.agg cs53] h30
                                                                                                            fun (v54 : Value) (h55 : Heap) =>
                                                                                                            Ext h30 h55 ∧ ∃ (t56 : Bool), v54 = Value.bool t56 ∧ R (Value.bool !t56) h55)
                                                                                                  (br (!t17)
                                                                                                    (∃ (cs57 : Array Value),
                                                                                                      row h30 (Addr.mk b0 (0 : Nat) none) (32 : Nat) = some cs57 ∧
                                                                                                        ∃ (cs58 : Array Value),
                                                                                                          row h30 (Addr.mk b0 (0 : Nat) none) (32 : Nat) = some cs58 ∧
                                                                                                            CallsH Try.prog n_prefix_Less #[Value.agg cs57, Value.agg cs58] h30
                                                                                                              fun (v59 : Value) (h60 : Heap) =>
                                                                                                              Ext h30 h60 ∧ ∃ (t61 : Bool), v59 = Value.bool t61 ∧ R (Value.bool !t61) h60)
                                                                                                    (br t20
                                                                                                      (∃ (cs62 : Array Value),
                                                                                                        row h30 (Addr.mk b0 (0 : Nat) none) (32 : Nat) = some cs62 ∧
                                                                                                          ∃ (cs63 : Array Value),
                                                                                                            row h30 (Addr.mk b0 (0 : Nat) none) (32 : Nat) = some cs63 ∧
                                                                                                              CallsH Try.prog n_prefix_Less #[Value.agg cs62, Value.agg cs63] h30
                                                                                                                fun (v64 : Value) (h65 : Heap) =>
                                                                                                                Ext h30 h65 ∧ ∃ (t66 : Bool), v64 = Value.bool t66 ∧ R (Value.bool !t66) h65)
                                                                                                      (R (Value.bool false) h30)))))
                                                                                              (R (Value.bool false) h30))
                                                                            (br (t26 == false)
                                                                              (br t14
                                                                                (∃ (cs67 : Array Value),
                                                                                  row h22 (Addr.mk b2 (0 : Nat) none) (32 : Nat) = some cs67 ∧
                                                                                    ∃ (cs68 : Array Value),
                                                                                      row h22 (Addr.mk b0 (0 : Nat) none) (32 : Nat) = some cs68 ∧
                                                                                        CallsH Try.prog n_prefix_Less #[Value.agg cs67, Value.agg cs68] h22 fun (v69 : Value) (h70 : Heap) =>
                                                                                          Ext h22 h70 ∧
                                                                                            ∃ (t71 : Bool),
                                                                                              v69 = Value.bool t71 ∧
                                                                                                br (!t71)
                                                                                                  (br (!t14)
                                                                                                    (∃ (cs72 : Array Value),
                                                                                                      row h70 (Addr.mk b0 (0 : Nat) none) (32 : Nat) = some cs72 ∧
                                                                                                        ∃ (cs73 : Array Value),
                                                                                                          row h70 (Addr.mk b0 (0 : Nat) none) (32 : Nat) = some cs73 ∧
                                                                                                            CallsH Try.prog n_prefix_Less #[Value.agg cs72, Value.agg cs73] h70
                                                                                                              fun (v74 : Value) (h75 : Heap) =>
                                                                                                              Ext h70 h75 ∧ ∃ (t76 : Bool), v74 = Value.bool t76 ∧ R (Value.bool !t76) h75)
                                                                                                    (br (!t17)
                                                                                                      (∃ (cs77 : Array Value),
                                                                                                        row h70 (Addr.mk b0 (0 : Nat) none) (32 : Nat) = some cs77 ∧
                                                                                                          ∃ (cs78 : Array Value),
                                                                                                            row h70 (Addr.mk b0 (0 : Nat) none) (32 : Nat) = some cs78 ∧
                                                                                                              CallsH Try.prog n_prefix_Less #[Value.agg cs77, Value.agg cs78] h70
                                                                                                                fun (v79 : Value) (h80 : Heap) =>
                                                                                                                Ext h70 h80 ∧ ∃ (t81 : Bool), v79 = Value.bool t81 ∧ R (Value.bool !t81) h80)
                                                                                                      (br t20
                                                                                                        (∃ (cs82 : Array Value),
                                                                                                          row h70 (Addr.mk b0 (0 : Nat) none) (32 : Nat) = some cs82 ∧
                                                                                                            ∃ (cs83 : Array Value),
                                                                                                              row h70 (Addr.mk b0 (0 : Nat) none) (32 : Nat) = some cs83 ∧
                                                                                                                CallsH Try.prog n_prefix_Less #[Value.agg cs82, Value.agg cs83] h70
                                                                                                                  fun (v84 : Value) (h85 : Heap) =>
                                                                                                                  Ext h70 h85 ∧ ∃ (t86 : Bool), v84 = Value.bool t86 ∧ R (Value.bool !t86) h85)
                                                                                                        (R (Value.bool false) h70))))
                                                                                                  (R (Value.bool false) h70))
                                                                                (br (!t14)
                                                                                  (∃ (cs87 : Array Value),
                                                                                    row h22 (Addr.mk b0 (0 : Nat) none) (32 : Nat) = some cs87 ∧
                                                                                      ∃ (cs88 : Array Value),
                                                                                        row h22 (Addr.mk b0 (0 : Nat) none) (32 : Nat) = some cs88 ∧
                                                                                          CallsH Try.prog n_prefix_Less #[Value.agg cs87, Value.agg cs88] h22 fun (v89 : Value) (h90 : Heap) =>
                                                                                            Ext h22 h90 ∧ ∃ (t91 : Bool), v89 = Value.bool t91 ∧ R (Value.bool !t91) h90)
                                                                                  (br (!t17)
                                                                                    (∃ (cs92 : Array Value),
                                                                                      row h22 (Addr.mk b0 (0 : Nat) none) (32 : Nat) = some cs92 ∧
                                                                                        ∃ (cs93 : Array Value),
                                                                                          row h22 (Addr.mk b0 (0 : Nat) none) (32 : Nat) = some cs93 ∧
                                                                                            CallsH Try.prog n_prefix_Less #[Value.agg cs92, Value.agg cs93] h22 fun (v94 : Value) (h95 : Heap) =>
                                                                                              Ext h22 h95 ∧ ∃ (t96 : Bool), v94 = Value.bool t96 ∧ R (Value.bool !t96) h95)
                                                                                    (br t20
                                                                                      (∃ (cs97 : Array Value),
                                                                                        row h22 (Addr.mk b0 (0 : Nat) none) (32 : Nat) = some cs97 ∧
                                                                                          ∃ (cs98 : Array Value),
                                                                                            row h22 (Addr.mk b0 (0 : Nat) none) (32 : Nat) = some cs98 ∧
                                                                                              CallsH Try.prog n_prefix_Less #[Value.agg cs97, Value.agg cs98] h22 fun (v99 : Value) (h100 : Heap) =>
                                                                                                Ext h22 h100 ∧ ∃ (t101 : Bool), v99 = Value.bool t101 ∧ R (Value.bool !t101) h100)
                                                                                      (R (Value.bool false) h22)))))
                                                                              (R (Value.bool false) h22)))
                                                                (R (Value.bool false) h22)
theorem C_law03_PrefixOrder (a : Array Value) (b : Array Value) (c : Array Value) {h : Heap} {R : Value → Heap → Prop} (H : F_law03_PrefixOrder a b c h R) : CallsH Try.prog n_law03_PrefixOrder [(.agg a), (.agg b), (.agg c)].toArray h R :=
  fn_sound (A := A_law03_PrefixOrder) (Eq.mp (by kernel_rfl : F_law03_PrefixOrder a b c h R = fnVc Go.Proofs.Try.prog A_law03_PrefixOrder 3 [(.agg a), (.agg b), (.agg c)] h R) H)

/- rolodex/rolodexlaw03.PrefixCuts -/
def A_law03_PrefixCuts : Ann := { qs := [9, 10, 11, 12, 13, 14, 15, 16, 17, 18, 19, 20, 21, 22, 23, 24, 25, 26, 27, 28, 29, 30, 32], plans := [(3, (.alt 0 (.take 1 (.take 2 (.take 3 (.take 5 (.take 6 (.alt 4 (.alt 7 (.take 8 (.take 9 (.take 10 (.take 11 (.take 13 (.alt 12 (.alt 14 (.take 15 (.take 16 (.take 17 (.take 18 (.take 19 (.take 21 (.take 22 (.alt 20 (.alt 23 (.take 24 (.take 25 (.take 26 (.take 27 (.take 28 (.take 29 (.take 30 (.take 31 (.take 32 (.take 33 (.take 34 (.take 35 (.take 36 .done))))))))))))) .stop) .stop)))))))) .stop) .stop)))))) .stop) .stop)))))) .stop))] }
def F_law03_PrefixCuts (k : Array Value) (n : Int) (p : Array Value) (h : Heap) (R : Value → Heap → Prop) : Prop :=
  newBlk h (23 : Nat) k fun (b0 : Nat) (h1 : Heap) =>
  newBlk h1 (28 : Nat) p fun (b2 : Nat) (h3 : Heap) =>
    ∃ (cs4 : Array Value),
      row h3 (Addr.mk b2 (0 : Nat) none) (33 : Nat) = some cs4 ∧
        CallsH Try.prog n_prefix_Child #[Value.agg cs4, Value.int IntKind.i64 n] h3 fun (v5 : Value) (h6 : Heap) =>
          Ext h3 h6 ∧
            ∃ (cs7 : Array Value),
              Array.size cs7 = (33 : Nat) ∧
                ∃ (t8 : Bool),
                  v5 = Value.tuple #[Value.agg cs7, Value.bool t8] ∧
                    newBlk h6 (28 : Nat) (List.toArray (Value.int IntKind.i64 (0 : Int) :: List.replicate (32 : Nat) (Value.int IntKind.u8 (0 : Int)))) fun (b9 : Nat) (h10 : Heap) =>
                      storeP (some (33 : Nat)) h10 (Addr.mk b9 (0 : Nat) none) (Value.agg cs7) fun (h11 : Heap) =>
                        ∃ (cs12 : Array Value),
                          row h11 (Addr.mk b2 (0 : Nat) none) (33 : Nat) = some cs12 ∧
                            CallsH Try.prog n_ref03_Child #[Value.agg cs12, Value.int IntKind.i64 n] h11 fun (v13 : Value) (h14 : Heap) =>
                              Ext h11 h14 ∧
                                ∃ (cs15 : Array Value),
                                  Array.size cs15 = (33 : Nat) ∧
                                    ∃ (t16 : Bool),
                                      v13 = Value.tuple #[Value.agg cs15, Value.bool t16] ∧
                                        newBlk h14 (28 : Nat) (List.toArray (Value.int IntKind.i64 (0 : Int) :: List.replicate (32 : Nat) (Value.int IntKind.u8 (0 : Int))))
                                          fun (b17 : Nat) (h18 : Heap) =>
                                          storeP (some (33 : Nat)) h18 (Addr.mk b17 (0 : Nat) none) (Value.agg cs15) fun (h19 : Heap) =>
                                            CallsH Try.prog n_law03_awake #[] h19 fun (v20 : Value) (h21 : Heap) =>
                                              Ext h19 h21 ∧
                                                ∃ (t22 : Bool),
                                                  v20 = Value.bool t22 ∧
                                                    br t22
                                                      (∃ (cs23 : Array Value),
                                                        row h21 (Addr.mk b0 (0 : Nat) none) (32 : Nat) = some cs23 ∧
                                                          ∃ (cs24 : Array Value),
                                                            row h21 (Addr.mk b0 (0 : Nat) none) (32 : Nat) = some cs24 ∧
                                                              CallsH Try.prog n_prefix_Cut #[Value.agg cs23, Value.int IntKind.i64 n] h21 fun (v25 : Value) (h26 : Heap) =>
                                                                Ext h21 h26 ∧
                                                                  ∃ (cs27 : Array Value),
                                                                    Array.size cs27 = (33 : Nat) ∧
                                                                      v25 = Value.agg cs27 ∧
                                                                        CallsH Try.prog n_ref03_Cut #[Value.agg cs24, Value.int IntKind.i64 n] h26 fun (v28 : Value) (h29 : Heap) =>
                                                                          Ext h26 h29 ∧
                                                                            ∃ (cs30 : Array Value),
                                                                              Array.size cs30 = (33 : Nat) ∧
                                                                                v28 = Value.agg cs30 ∧
                                                                                  eqAgg Try.prog (28 : Nat) cs27 cs30 fun (t31 : Bool) =>
                                                                                    br t31
                                                                                      (∃ (cs32 : Array Value),
                                                                                        row h29 (Addr.mk b2 (0 : Nat) none) (33 : Nat) = some cs32 ∧
                                                                                          ∃ (cs33 : Array Value),
                                                                                            row h29 (Addr.mk b2 (0 : Nat) none) (33 : Nat) = some cs33 ∧
                                                                                              CallsH Try.prog n_prefix_Formed #[Value.agg cs32] h29 fun (v34 : Value) (h35 : Heap) =>
                                                                                                Ext h29 h35 ∧
                                                                                                  ∃ (t36 : Bool),
                                                                                                    v34 = Value.bool t36 ∧
                                                                                                      CallsH Try.prog n_ref03_Formed #[Value.agg cs33] h35 fun (v37 : Value) (h38 : Heap) =>
                                                                                                        Ext h35 h38 ∧
                                                                                                          ∃ (t39 : Bool),
                                                                                                            v37 = Value.bool t39 ∧
                                                                                                              br (t36 == t39)
                                                                                                                (∃ (cs40 : Array Value),
                                                                                                                  row h38 (Addr.mk b2 (0 : Nat) none) (33 : Nat) = some cs40 ∧
                                                                                                                    ∃ (cs41 : Array Value),
                                                                                                                      row h38 (Addr.mk b0 (0 : Nat) none) (32 : Nat) = some cs41 ∧
                                                                                                                        ∃ (cs42 : Array Value),
                                                                                                                          row h38 (Addr.mk b2 (0 : Nat) none) (33 : Nat) = some cs42 ∧
                                                                                                                            ∃ (cs43 : Array Value),
                                                                                                                              row h38 (Addr.mk b0 (0 : Nat) none) (32 : Nat) = some cs43 ∧
                                                                                                                                CallsH Try.prog n_prefix_Holds #[Value.agg cs40, Value.agg cs41] h38
                                                                                                                                  fun (v44 : Value) (h45 : Heap) =>
                                                                                                                                  Ext h38 h45 ∧
                                                                                                                                    ∃ (t46 : Bool),
                                                                                                                                      v44 = Value.bool t46 ∧
                                                                                                                                        CallsH Try.prog n_ref03_Holds #[Value.agg cs42, Value.agg cs43] h45
                                                                                                                                          fun (v47 : Value) (h48 : Heap) =>
                                                                                                                                          Ext h45 h48 ∧
                                                                                                                                            ∃ (t49 : Bool),
                                                                                                                                              v47 = Value.bool t49 ∧
                                                                                                                                                br (t46 == t49)
                                                                                                                                                  (∃ (cs50 : Array Value),
                                                                                                                                                    row h48 (Addr.mk b9 (0 : Nat) none) (33 : Nat) =
                                                                                                                                                        some cs50 ∧
                                                                                                                                                      ∃ (cs51 : Array Value),
                                                                                                                                                        row h48 (Addr.mk b17 (0 : Nat) none)
                                                                                                                                                              (33 : Nat) =
                                                                                                                                                            some cs51 ∧
                                                                                                                                                          eqAgg Try.prog (28 : Nat) cs50 cs51
                                                                                                                                                            fun (t52 : Bool) =>
                                                                                                                                                            br t52 (R (Value.bool (t8 == t16)) h48)
                                                                                                                                                              (R (Value.bool false) h48))
                                                                                                                                                  (R (Value.bool false) h48))
                                                                                                                (R (Value.bool false) h38))
                                                                                      (R (Value.bool false) h29))
                                                      (R (Value.bool false) h21)
theorem C_law03_PrefixCuts (k : Array Value) (n : Int) (p : Array Value) {h : Heap} {R : Value → Heap → Prop} (H : F_law03_PrefixCuts k n p h R) : CallsH Try.prog n_law03_PrefixCuts [(.agg k), (.int .i64 n), (.agg p)].toArray h R :=
  fn_sound (A := A_law03_PrefixCuts) (Eq.mp (by kernel_rfl : F_law03_PrefixCuts k n p h R = fnVc Go.Proofs.Try.prog A_law03_PrefixCuts 4 [(.agg k), (.int .i64 n), (.agg p)] h R) H)

/- rolodex/rolodexlaw03.PrefixOwn -/
def A_law03_PrefixOwn : Ann := { qs := [9, 10, 11, 12, 13, 14, 15, 16, 17, 18, 19, 20, 21, 22, 23, 24, 25, 26, 27, 28, 29, 30, 32], cuts := [(3, [(8, .blk), (9, .blk)])], plans := [(2, (.take 0 (.take 1 (.take 3 (.take 4 (.alt 2 (.alt 5 (.alt 6 (.alt 7 (.alt 8 (.alt 9 .done .stop) .stop) .stop) (.alt 7 (.alt 6 (.alt 8 (.alt 9 .done .stop) .stop) .stop) .stop)) (.alt 6 (.alt 5 (.alt 7 (.alt 8 (.alt 9 .done .stop) .stop) .stop) (.alt 7 (.alt 5 (.alt 8 (.alt 9 .done .stop) .stop) .stop) .stop)) (.alt 7 (.alt 5 (.alt 6 (.alt 8 (.alt 9 .done .stop) .stop) .stop) (.alt 6 (.alt 5 (.alt 8 (.alt 9 .done .stop) .stop) .stop) .stop)) .stop))) (.alt 6 (.alt 2 (.alt 5 (.alt 7 (.alt 8 (.alt 9 .done .stop) .stop) .stop) (.alt 7 (.alt 5 (.alt 8 (.alt 9 .done .stop) .stop) .stop) .stop)) (.alt 7 (.alt 2 (.alt 5 (.alt 8 (.alt 9 .done .stop) .stop) .stop) .stop) .stop)) (.alt 7 (.alt 2 (.alt 5 (.alt 6 (.alt 8 (.alt 9 .done .stop) .stop) .stop) (.alt 6 (.alt 5 (.alt 8 (.alt 9 .done .stop) .stop) .stop) .stop)) (.alt 6 (.alt 2 (.alt 5 (.alt 8 (.alt 9 .done .stop) .stop) .stop) .stop) .stop)) .stop)))))))), (3, (.alt 0 (.take 1 (.take 2 (.alt 3 (.take 4 (.take 5 (.take 6 (.take 7 (.take 8 (.take 9 (.take 10 (.take 11 (.take 12 (.take 13 (.alt 14 (.take 15 (.take 16 (.take 17 (.take 18 (.take 20 (.take 21 (.take 22 (.alt 19 (.take 23 (.take 24 (.take 25 (.take 26 (.take 27 (.take 29 (.take 31 (.take 32 (.take 33 (.alt 28 (.take 30 (.take 34 (.take 35 (.take 36 .done)))) .stop)))))))))) .stop)))))))) .stop))))))))))) .stop))) .stop))] }
def F_law03_PrefixOwn (k : Array Value) (other : Array Value) (n : Int) (h : Heap) (R : Value → Heap → Prop) : Prop :=
  newBlk h (23 : Nat) k fun (b0 : Nat) (h1 : Heap) =>
  newBlk h1 (23 : Nat) other fun (b2 : Nat) (h3 : Heap) =>
    (257 : Int) ≠ (0 : Int) ∧
      ∃ (J4 : Nat × Nat → Heap → Prop),
        (∃ (cs5 : Array Value),
            row h3 (Addr.mk b0 (0 : Nat) none) (32 : Nat) = some cs5 ∧
              ∃ (cs6 : Array Value),
                row h3 (Addr.mk b2 (0 : Nat) none) (32 : Nat) = some cs6 ∧
                  (CallsH Try.prog n_prefix_Cut #[Value.agg cs5, Value.int IntKind.i64 (IntKind.wrap IntKind.i64 (Int.tmod n (257 : Int)))] h3 fun (v7 : Value) (h8 : Heap) =>
                      Ext h3 h8 ∧
                        ∃ (cs9 : Array Value),
                          Array.size cs9 = (33 : Nat) ∧
                            v7 = Value.agg cs9 ∧
                              (CallsH Try.prog n_prefix_Cut #[Value.agg cs6, Value.int IntKind.i64 (IntKind.wrap IntKind.i64 (Int.tmod n (257 : Int)))] h8 fun (v10 : Value) (h11 : Heap) =>
                                  Ext h8 h11 ∧
                                    ∃ (cs12 : Array Value),
                                      Array.size cs12 = (33 : Nat) ∧
                                        v10 = Value.agg cs12 ∧
                                          (newBlk h11 (28 : Nat) (List.toArray (Value.int IntKind.i64 (0 : Int) :: List.replicate (32 : Nat) (Value.int IntKind.u8 (0 : Int))))
                                              fun (b13 : Nat) (h14 : Heap) =>
                                              newBlk h14 (28 : Nat) (List.toArray (Value.int IntKind.i64 (0 : Int) :: List.replicate (32 : Nat) (Value.int IntKind.u8 (0 : Int))))
                                                fun (b15 : Nat) (h16 : Heap) =>
                                                storeP (some (33 : Nat)) h16 (Addr.mk b13 (0 : Nat) none) (Value.agg cs9) fun (h17 : Heap) =>
                                                  storeP (some (33 : Nat)) h17 (Addr.mk b15 (0 : Nat) none) (Value.agg cs12) fun (h18 : Heap) => J4 (b13, b15) h18) ∧
                                            newBlk h11 (28 : Nat) (List.toArray (Value.int IntKind.i64 (0 : Int) :: List.replicate (32 : Nat) (Value.int IntKind.u8 (0 : Int))))
                                              fun (b19 : Nat) (h20 : Heap) =>
                                              newBlk h20 (28 : Nat) (List.toArray (Value.int IntKind.i64 (0 : Int) :: List.replicate (32 : Nat) (Value.int IntKind.u8 (0 : Int))))
                                                fun (b21 : Nat) (h22 : Heap) =>
                                                storeP (some (33 : Nat)) h22 (Addr.mk b21 (0 : Nat) none) (Value.agg cs9) fun (h23 : Heap) =>
                                                  storeP (some (33 : Nat)) h23 (Addr.mk b19 (0 : Nat) none) (Value.agg cs12) fun (h24 : Heap) => J4 (b21, b19) h24) ∧
                                (newBlk h8 (28 : Nat) (List.toArray (Value.int IntKind.i64 (0 : Int) :: List.replicate (32 : Nat) (Value.int IntKind.u8 (0 : Int)))) fun (b25 : Nat) (h26 : Heap) =>
                                    (CallsH Try.prog n_prefix_Cut #[Value.agg cs6, Value.int IntKind.i64 (IntKind.wrap IntKind.i64 (Int.tmod n (257 : Int)))] h26 fun (v27 : Value) (h28 : Heap) =>
                                        Ext h26 h28 ∧
                                          ∃ (cs29 : Array Value),
                                            Array.size cs29 = (33 : Nat) ∧
                                              v27 = Value.agg cs29 ∧
                                                newBlk h28 (28 : Nat) (List.toArray (Value.int IntKind.i64 (0 : Int) :: List.replicate (32 : Nat) (Value.int IntKind.u8 (0 : Int))))
                                                  fun (b30 : Nat) (h31 : Heap) =>
                                                  storeP (some (33 : Nat)) h31 (Addr.mk b25 (0 : Nat) none) (Value.agg cs9) fun (h32 : Heap) =>
                                                    storeP (some (33 : Nat)) h32 (Addr.mk b30 (0 : Nat) none) (Value.agg cs29) fun (h33 : Heap) => J4 (b25, b30) h33) ∧
                                      newBlk h26 (28 : Nat) (List.toArray (Value.int IntKind.i64 (0 : Int) :: List.replicate (32 : Nat) (Value.int IntKind.u8 (0 : Int))))
                                        fun (b34 : Nat) (h35 : Heap) =>
                                        CallsH Try.prog n_prefix_Cut #[Value.agg cs6, Value.int IntKind.i64 (IntKind.wrap IntKind.i64 (Int.tmod n (257 : Int)))] h35 fun (v36 : Value) (h37 : Heap) =>
                                          Ext h35 h37 ∧
                                            ∃ (cs38 : Array Value),
                                              Array.size cs38 = (33 : Nat) ∧
                                                v36 = Value.agg cs38 ∧
                                                  storeP (some (33 : Nat)) h37 (Addr.mk b25 (0 : Nat) none) (Value.agg cs9) fun (h39 : Heap) =>
                                                    storeP (some (33 : Nat)) h39 (Addr.mk b34 (0 : Nat) none) (Value.agg cs38) fun (h40 : Heap) => J4 (b25, b34) h40) ∧
                                  newBlk h8 (28 : Nat) (List.toArray (Value.int IntKind.i64 (0 : Int) :: List.replicate (32 : Nat) (Value.int IntKind.u8 (0 : Int)))) fun (b41 : Nat) (h42 : Heap) =>
                                    (CallsH Try.prog n_prefix_Cut #[Value.agg cs6, Value.int IntKind.i64 (IntKind.wrap IntKind.i64 (Int.tmod n (257 : Int)))] h42 fun (v43 : Value) (h44 : Heap) =>
                                        Ext h42 h44 ∧
                                          ∃ (cs45 : Array Value),
                                            Array.size cs45 = (33 : Nat) ∧
                                              v43 = Value.agg cs45 ∧
                                                newBlk h44 (28 : Nat) (List.toArray (Value.int IntKind.i64 (0 : Int) :: List.replicate (32 : Nat) (Value.int IntKind.u8 (0 : Int))))
                                                  fun (b46 : Nat) (h47 : Heap) =>
                                                  storeP (some (33 : Nat)) h47 (Addr.mk b46 (0 : Nat) none) (Value.agg cs9) fun (h48 : Heap) =>
                                                    storeP (some (33 : Nat)) h48 (Addr.mk b41 (0 : Nat) none) (Value.agg cs45) fun (h49 : Heap) => J4 (b46, b41) h49) ∧
                                      newBlk h42 (28 : Nat) (List.toArray (Value.int IntKind.i64 (0 : Int) :: List.replicate (32 : Nat) (Value.int IntKind.u8 (0 : Int))))
                                        fun (b50 : Nat) (h51 : Heap) =>
                                        CallsH Try.prog n_prefix_Cut #[Value.agg cs6, Value.int IntKind.i64 (IntKind.wrap IntKind.i64 (Int.tmod n (257 : Int)))] h51 fun (v52 : Value) (h53 : Heap) =>
                                          Ext h51 h53 ∧
                                            ∃ (cs54 : Array Value),
                                              Array.size cs54 = (33 : Nat) ∧
                                                v52 = Value.agg cs54 ∧
                                                  storeP (some (33 : Nat)) h53 (Addr.mk b50 (0 : Nat) none) (Value.agg cs9) fun (h55 : Heap) =>
                                                    storeP (some (33 : Nat)) h55 (Addr.mk b41 (0 : Nat) none) (Value.agg cs54) fun (h56 : Heap) => J4 (b50, b41) h56) ∧
                    (newBlk h3 (28 : Nat) (List.toArray (Value.int IntKind.i64 (0 : Int) :: List.replicate (32 : Nat) (Value.int IntKind.u8 (0 : Int)))) fun (b57 : Nat) (h58 : Heap) =>
                        (CallsH Try.prog n_prefix_Cut #[Value.agg cs5, Value.int IntKind.i64 (IntKind.wrap IntKind.i64 (Int.tmod n (257 : Int)))] h58 fun (v59 : Value) (h60 : Heap) =>
                            Ext h58 h60 ∧
                              ∃ (cs61 : Array Value),
                                Array.size cs61 = (33 : Nat) ∧
                                  v59 = Value.agg cs61 ∧
                                    (CallsH Try.prog n_prefix_Cut #[Value.agg cs6, Value.int IntKind.i64 (IntKind.wrap IntKind.i64 (Int.tmod n (257 : Int)))] h60 fun (v62 : Value) (h63 : Heap) =>
                                        Ext h60 h63 ∧
                                          ∃ (cs64 : Array Value),
                                            Array.size cs64 = (33 : Nat) ∧
                                              v62 = Value.agg cs64 ∧
                                                newBlk h63 (28 : Nat) (List.toArray (Value.int IntKind.i64 (0 : Int) :: List.replicate (32 : Nat) (Value.int IntKind.u8 (0 : Int))))
                                                  fun (b65 : Nat) (h66 : Heap) =>
                                                  storeP (some (33 : Nat)) h66 (Addr.mk b57 (0 : Nat) none) (Value.agg cs61) fun (h67 : Heap) =>
                                                    storeP (some (33 : Nat)) h67 (Addr.mk b65 (0 : Nat) none) (Value.agg cs64) fun (h68 : Heap) => J4 (b57, b65) h68) ∧
                                      newBlk h60 (28 : Nat) (List.toArray (Value.int IntKind.i64 (0 : Int) :: List.replicate (32 : Nat) (Value.int IntKind.u8 (0 : Int))))
                                        fun (b69 : Nat) (h70 : Heap) =>
                                        CallsH Try.prog n_prefix_Cut #[Value.agg cs6, Value.int IntKind.i64 (IntKind.wrap IntKind.i64 (Int.tmod n (257 : Int)))] h70 fun (v71 : Value) (h72 : Heap) =>
                                          Ext h70 h72 ∧
                                            ∃ (cs73 : Array Value),
                                              Array.size cs73 = (33 : Nat) ∧
                                                v71 = Value.agg cs73 ∧
                                                  storeP (some (33 : Nat)) h72 (Addr.mk b57 (0 : Nat) none) (Value.agg cs61) fun (h74 : Heap) =>
                                                    storeP (some (33 : Nat)) h74 (Addr.mk b69 (0 : Nat) none) (Value.agg cs73) fun (h75 : Heap) => J4 (b57, b69) h75) ∧
                          newBlk h58 (28 : Nat) (List.toArray (Value.int IntKind.i64 (0 : Int) :: List.replicate (32 : Nat) (Value.int IntKind.u8 (0 : Int)))) fun (b76 : Nat) (h77 : Heap) =>
                            CallsH Try.prog n_prefix_Cut #[Value.agg cs5, Value.int IntKind.i64 (IntKind.wrap IntKind.i64 (Int.tmod n (257 : Int)))] h77 fun (v78 : Value) (h79 : Heap) =>
                              Ext h77 h79 ∧
                                ∃ (cs80 : Array Value),
                                  Array.size cs80 = (33 : Nat) ∧
                                    v78 = Value.agg cs80 ∧
                                      CallsH Try.prog n_prefix_Cut #[Value.agg cs6, Value.int IntKind.i64 (IntKind.wrap IntKind.i64 (Int.tmod n (257 : Int)))] h79 fun (v81 : Value) (h82 : Heap) =>
                                        Ext h79 h82 ∧
                                          ∃ (cs83 : Array Value),
                                            Array.size cs83 = (33 : Nat) ∧
                                              v81 = Value.agg cs83 ∧
                                                storeP (some (33 : Nat)) h82 (Addr.mk b57 (0 : Nat) none) (Value.agg cs80) fun (h84 : Heap) =>
                                                  storeP (some (33 : Nat)) h84 (Addr.mk b76 (0 : Nat) none) (Value.agg cs83) fun (h85 : Heap) => J4 (b57, b76) h85) ∧
                      newBlk h3 (28 : Nat) (List.toArray (Value.int IntKind.i64 (0 : Int) :: List.replicate (32 : Nat) (Value.int IntKind.u8 (0 : Int)))) fun (b86 : Nat) (h87 : Heap) =>
                        (CallsH Try.prog n_prefix_Cut #[Value.agg cs5, Value.int IntKind.i64 (IntKind.wrap IntKind.i64 (Int.tmod n (257 : Int)))] h87 fun (v88 : Value) (h89 : Heap) =>
                            Ext h87 h89 ∧
                              ∃ (cs90 : Array Value),
                                Array.size cs90 = (33 : Nat) ∧
                                  v88 = Value.agg cs90 ∧
                                    (CallsH Try.prog n_prefix_Cut #[Value.agg cs6, Value.int IntKind.i64 (IntKind.wrap IntKind.i64 (Int.tmod n (257 : Int)))] h89 fun (v91 : Value) (h92 : Heap) =>
                                        Ext h89 h92 ∧
                                          ∃ (cs93 : Array Value),
                                            Array.size cs93 = (33 : Nat) ∧
                                              v91 = Value.agg cs93 ∧
                                                newBlk h92 (28 : Nat) (List.toArray (Value.int IntKind.i64 (0 : Int) :: List.replicate (32 : Nat) (Value.int IntKind.u8 (0 : Int))))
                                                  fun (b94 : Nat) (h95 : Heap) =>
                                                  storeP (some (33 : Nat)) h95 (Addr.mk b94 (0 : Nat) none) (Value.agg cs90) fun (h96 : Heap) =>
                                                    storeP (some (33 : Nat)) h96 (Addr.mk b86 (0 : Nat) none) (Value.agg cs93) fun (h97 : Heap) => J4 (b94, b86) h97) ∧
                                      newBlk h89 (28 : Nat) (List.toArray (Value.int IntKind.i64 (0 : Int) :: List.replicate (32 : Nat) (Value.int IntKind.u8 (0 : Int))))
                                        fun (b98 : Nat) (h99 : Heap) =>
                                        CallsH Try.prog n_prefix_Cut #[Value.agg cs6, Value.int IntKind.i64 (IntKind.wrap IntKind.i64 (Int.tmod n (257 : Int)))] h99 fun (v100 : Value) (h101 : Heap) =>
                                          Ext h99 h101 ∧
                                            ∃ (cs102 : Array Value),
                                              Array.size cs102 = (33 : Nat) ∧
                                                v100 = Value.agg cs102 ∧
                                                  storeP (some (33 : Nat)) h101 (Addr.mk b98 (0 : Nat) none) (Value.agg cs90) fun (h103 : Heap) =>
                                                    storeP (some (33 : Nat)) h103 (Addr.mk b86 (0 : Nat) none) (Value.agg cs102) fun (h104 : Heap) => J4 (b98, b86) h104) ∧
                          newBlk h87 (28 : Nat) (List.toArray (Value.int IntKind.i64 (0 : Int) :: List.replicate (32 : Nat) (Value.int IntKind.u8 (0 : Int)))) fun (b105 : Nat) (h106 : Heap) =>
                            CallsH Try.prog n_prefix_Cut #[Value.agg cs5, Value.int IntKind.i64 (IntKind.wrap IntKind.i64 (Int.tmod n (257 : Int)))] h106 fun (v107 : Value) (h108 : Heap) =>
                              Ext h106 h108 ∧
                                ∃ (cs109 : Array Value),
                                  Array.size cs109 = (33 : Nat) ∧
                                    v107 = Value.agg cs109 ∧
                                      CallsH Try.prog n_prefix_Cut #[Value.agg cs6, Value.int IntKind.i64 (IntKind.wrap IntKind.i64 (Int.tmod n (257 : Int)))] h108 fun (v110 : Value) (h111 : Heap) =>
                                        Ext h108 h111 ∧
                                          ∃ (cs112 : Array Value),
                                            Array.size cs112 = (33 : Nat) ∧
                                              v110 = Value.agg cs112 ∧
                                                storeP (some (33 : Nat)) h111 (Addr.mk b105 (0 : Nat) none) (Value.agg cs109) fun (h113 : Heap) =>
                                                  storeP (some (33 : Nat)) h113 (Addr.mk b86 (0 : Nat) none) (Value.agg cs112) fun (h114 : Heap) => J4 (b105, b86) h114) ∧
          ∀ (s115 : Nat × Nat) (h116 : Heap),
            J4 s115 h116 →
              CallsH Try.prog n_law03_awake #[] h116 fun (v117 : Value) (h118 : Heap) =>
                Ext h116 h118 ∧
                  ∃ (t119 : Bool),
                    v117 = Value.bool t119 ∧
                      br t119
                        (∃ (cs120 : Array Value),
                          row h118 (Addr.mk (Prod.fst s115) (0 : Nat) none) (33 : Nat) = some cs120 ∧
                            CallsH Try.prog n_prefix_Formed #[Value.agg cs120] h118 fun (v121 : Value) (h122 : Heap) =>
                              Ext h118 h122 ∧
                                ∃ (t123 : Bool),
                                  v121 = Value.bool t123 ∧
                                    br t123
                                      (∃ (n124 : Int),
                                        cell h122 (Addr.add (Addr.mk (Prod.fst s115) (0 : Nat) none) (0 : Nat)) = some (Value.int IntKind.i64 n124) ∧
                                          br (n124 == IntKind.wrap IntKind.i64 (Int.tmod n (257 : Int)))
                                            (∃ (cs125 : Array Value),
                                              row h122 (Addr.mk (Prod.fst s115) (0 : Nat) none) (33 : Nat) = some cs125 ∧
                                                ∃ (cs126 : Array Value),
                                                  row h122 (Addr.mk b0 (0 : Nat) none) (32 : Nat) = some cs126 ∧
                                                    CallsH Try.prog n_prefix_Holds #[Value.agg cs125, Value.agg cs126] h122 fun (v127 : Value) (h128 : Heap) =>
                                                      Ext h122 h128 ∧
                                                        ∃ (t129 : Bool),
                                                          v127 = Value.bool t129 ∧
                                                            br t129
                                                              (∃ (cs130 : Array Value),
                                                                row h128 (Addr.mk (Prod.snd s115) (0 : Nat) none) (33 : Nat) = some cs130 ∧
                                                                  ∃ (cs131 : Array Value),
                                                                    row h128 (Addr.mk b0 (0 : Nat) none) (32 : Nat) = some cs131 ∧
                                                                      ∃ (cs132 : Array Value),
                                                                        row h128 (Addr.mk (Prod.fst s115) (0 : Nat) none) (33 : Nat) = some cs132 ∧
                                                                          ∃ (cs133 : Array Value),
                                                                            row h128 (Addr.mk (Prod.snd s115) (0 : Nat) none) (33 : Nat) = some cs133 ∧
                                                                              eqAgg Try.prog (28 : Nat) cs132 cs133 fun (t134 : Bool) =>
                                                                                CallsH Try.prog n_prefix_Holds #[Value.agg cs130, Value.agg cs131] h128 fun (v135 : Value) (h136 : Heap) =>
                                                                                  Ext h128 h136 ∧
                                                                                    ∃ (t137 : Bool),
                                                                                      v135 = Value.bool t137 ∧
                                                                                        br (t137 == t134)
                                                                                          (∃ (cs138 : Array Value),
                                                                                            row h136 (Addr.mk b0 (0 : Nat) none) (32 : Nat) = some cs138 ∧
                                                                                              ∃ (cs139 : Array Value),
                                                                                                row h136 (Addr.mk b2 (0 : Nat) none) (32 : Nat) = some cs139 ∧
                                                                                                  ∃ (cs140 : Array Value),
                                                                                                    row h136 (Addr.mk (Prod.fst s115) (0 : Nat) none) (33 : Nat) = some cs140 ∧
                                                                                                      ∃ (cs141 : Array Value),
                                                                                                        row h136 (Addr.mk (Prod.snd s115) (0 : Nat) none) (33 : Nat) = some cs141 ∧
                                                                                                          eqAgg Try.prog (28 : Nat) cs140 cs141 fun (t142 : Bool) =>
                                                                                                            CallsH Try.prog n_prefix_Shared #[Value.agg cs138, Value.agg cs139] h136
                                                                                                              fun (v143 : Value) (h144 : Heap) =>
                                                                                                              Ext h136 h144 ∧
                                                                                                                ∃ (n145 : Int),
                                                                                                                  v143 = Value.int IntKind.i64 n145 ∧
                                                                                                                    R
                                                                                                                      (Value.bool
                                                                                                                        (decide (n145 ≥ IntKind.wrap IntKind.i64 (Int.tmod n (257 : Int))) == t142))
                                                                                                                      h144)
                                                                                          (R (Value.bool false) h136))
                                                              (R (Value.bool false) h128))
                                            (R (Value.bool false) h122))
                                      (R (Value.bool false) h122))
                        (R (Value.bool false) h118)
theorem C_law03_PrefixOwn (k : Array Value) (other : Array Value) (n : Int) {h : Heap} {R : Value → Heap → Prop} (H : F_law03_PrefixOwn k other n h R) : CallsH Try.prog n_law03_PrefixOwn [(.agg k), (.agg other), (.int .u16 n)].toArray h R :=
  fn_sound (A := A_law03_PrefixOwn) (Eq.mp (by kernel_rfl : F_law03_PrefixOwn k other n h R = fnVc Go.Proofs.Try.prog A_law03_PrefixOwn 5 [(.agg k), (.agg other), (.int .u16 n)] h R) H)

/- rolodex/rolodexlaw03.PrefixBits -/
def A_law03_PrefixBits : Ann := { qs := [9, 10, 11, 12, 13, 14, 15, 16, 17, 18, 19, 20, 21, 22, 23, 24, 25, 26, 27, 28, 29, 30, 32], plans := [(1, (.alt 0 (.take 1 (.take 2 (.take 3 (.take 5 (.take 6 (.alt 4 (.alt 7 (.take 8 (.take 9 (.take 10 (.take 11 (.take 12 (.take 14 (.take 15 (.alt 13 (.alt 16 (.take 17 (.take 18 (.take 19 (.take 20 (.take 21 (.take 23 (.take 24 (.alt 22 (.alt 25 (.take 26 (.take 27 (.take 28 .done))) .stop) .stop)))))))) .stop) .stop)))))))) .stop) .stop)))))) .stop))] }
def F_law03_PrefixBits (a : Array Value) (b : Array Value) (i : Int) (h : Heap) (R : Value → Heap → Prop) : Prop :=
  newBlk h (23 : Nat) a fun (b0 : Nat) (h1 : Heap) =>
  newBlk h1 (23 : Nat) b fun (b2 : Nat) (h3 : Heap) =>
    CallsH Try.prog n_law03_awake #[] h3 fun (v4 : Value) (h5 : Heap) =>
      Ext h3 h5 ∧
        ∃ (t6 : Bool),
          v4 = Value.bool t6 ∧
            br t6
              (∃ (cs7 : Array Value),
                row h5 (Addr.mk b0 (0 : Nat) none) (32 : Nat) = some cs7 ∧
                  ∃ (cs8 : Array Value),
                    row h5 (Addr.mk b0 (0 : Nat) none) (32 : Nat) = some cs8 ∧
                      CallsH Try.prog n_prefix_Bit #[Value.agg cs7, Value.int IntKind.i64 i] h5 fun (v9 : Value) (h10 : Heap) =>
                        Ext h5 h10 ∧
                          ∃ (n11 : Int),
                            v9 = Value.int IntKind.i64 n11 ∧
                              CallsH Try.prog n_ref03_Bit #[Value.agg cs8, Value.int IntKind.i64 i] h10 fun (v12 : Value) (h13 : Heap) =>
                                Ext h10 h13 ∧
                                  ∃ (n14 : Int),
                                    v12 = Value.int IntKind.i64 n14 ∧
                                      br (n11 == n14)
                                        (∃ (cs15 : Array Value),
                                          row h13 (Addr.mk b0 (0 : Nat) none) (32 : Nat) = some cs15 ∧
                                            ∃ (cs16 : Array Value),
                                              row h13 (Addr.mk b2 (0 : Nat) none) (32 : Nat) = some cs16 ∧
                                                ∃ (cs17 : Array Value),
                                                  row h13 (Addr.mk b0 (0 : Nat) none) (32 : Nat) = some cs17 ∧
                                                    ∃ (cs18 : Array Value),
                                                      row h13 (Addr.mk b2 (0 : Nat) none) (32 : Nat) = some cs18 ∧
                                                        CallsH Try.prog n_prefix_Shared #[Value.agg cs15, Value.agg cs16] h13 fun (v19 : Value) (h20 : Heap) =>
                                                          Ext h13 h20 ∧
                                                            ∃ (n21 : Int),
                                                              v19 = Value.int IntKind.i64 n21 ∧
                                                                CallsH Try.prog n_ref03_Shared #[Value.agg cs17, Value.agg cs18] h20 fun (v22 : Value) (h23 : Heap) =>
                                                                  Ext h20 h23 ∧
                                                                    ∃ (n24 : Int),
                                                                      v22 = Value.int IntKind.i64 n24 ∧
                                                                        br (n21 == n24)
                                                                          (∃ (cs25 : Array Value),
                                                                            row h23 (Addr.mk b0 (0 : Nat) none) (32 : Nat) = some cs25 ∧
                                                                              ∃ (cs26 : Array Value),
                                                                                row h23 (Addr.mk b2 (0 : Nat) none) (32 : Nat) = some cs26 ∧
                                                                                  ∃ (cs27 : Array Value),
                                                                                    row h23 (Addr.mk b0 (0 : Nat) none) (32 : Nat) = some cs27 ∧
                                                                                      ∃ (cs28 : Array Value),
                                                                                        row h23 (Addr.mk b2 (0 : Nat) none) (32 : Nat) = some cs28 ∧
                                                                                          CallsH Try.prog n_prefix_Less #[Value.agg cs25, Value.agg cs26] h23 fun (v29 : Value) (h30 : Heap) =>
                                                                                            Ext h23 h30 ∧
                                                                                              ∃ (t31 : Bool),
                                                                                                v29 = Value.bool t31 ∧
                                                                                                  CallsH Try.prog n_ref03_Less #[Value.agg cs27, Value.agg cs28] h30 fun (v32 : Value) (h33 : Heap) =>
                                                                                                    Ext h30 h33 ∧ ∃ (t34 : Bool), v32 = Value.bool t34 ∧ R (Value.bool (t31 == t34)) h33)
                                                                          (R (Value.bool false) h23))
                                        (R (Value.bool false) h13))
              (R (Value.bool false) h5)
theorem C_law03_PrefixBits (a : Array Value) (b : Array Value) (i : Int) {h : Heap} {R : Value → Heap → Prop} (H : F_law03_PrefixBits a b i h R) : CallsH Try.prog n_law03_PrefixBits [(.agg a), (.agg b), (.int .i64 i)].toArray h R :=
  fn_sound (A := A_law03_PrefixBits) (Eq.mp (by kernel_rfl : F_law03_PrefixBits a b i h R = fnVc Go.Proofs.Try.prog A_law03_PrefixBits 6 [(.agg a), (.agg b), (.int .i64 i)] h R) H)

/- rolodex/rolodexlaw03.PrefixMeets -/
def A_law03_PrefixMeets : Ann := { qs := [9, 10, 11, 12, 13, 14, 15, 16, 17, 18, 19, 20, 21, 22, 23, 24, 25, 26, 27, 28, 29, 30, 32], plans := [(1, (.alt 0 (.take 1 (.take 2 (.take 3 (.take 5 (.take 6 (.alt 4 (.alt 7 (.take 8 (.take 9 (.take 10 (.take 11 (.take 12 (.take 14 (.take 15 (.alt 13 (.alt 16 (.take 17 (.take 18 (.take 19 .done))) .stop) .stop)))))))) .stop) .stop)))))) .stop))] }
def F_law03_PrefixMeets (p : Array Value) (q : Array Value) (h : Heap) (R : Value → Heap → Prop) : Prop :=
  newBlk h (28 : Nat) p fun (b0 : Nat) (h1 : Heap) =>
  newBlk h1 (28 : Nat) q fun (b2 : Nat) (h3 : Heap) =>
    CallsH Try.prog n_law03_awake #[] h3 fun (v4 : Value) (h5 : Heap) =>
      Ext h3 h5 ∧
        ∃ (t6 : Bool),
          v4 = Value.bool t6 ∧
            br t6
              (∃ (cs7 : Array Value),
                row h5 (Addr.mk b0 (0 : Nat) none) (33 : Nat) = some cs7 ∧
                  ∃ (cs8 : Array Value),
                    row h5 (Addr.mk b2 (0 : Nat) none) (33 : Nat) = some cs8 ∧
                      ∃ (cs9 : Array Value),
                        row h5 (Addr.mk b0 (0 : Nat) none) (33 : Nat) = some cs9 ∧
                          ∃ (cs10 : Array Value),
                            row h5 (Addr.mk b2 (0 : Nat) none) (33 : Nat) = some cs10 ∧
                              CallsH Try.prog n_prefix_Meet #[Value.agg cs7, Value.agg cs8] h5 fun (v11 : Value) (h12 : Heap) =>
                                Ext h5 h12 ∧
                                  ∃ (cs13 : Array Value),
                                    Array.size cs13 = (33 : Nat) ∧
                                      v11 = Value.agg cs13 ∧
                                        CallsH Try.prog n_ref03_Meet #[Value.agg cs9, Value.agg cs10] h12 fun (v14 : Value) (h15 : Heap) =>
                                          Ext h12 h15 ∧
                                            ∃ (cs16 : Array Value),
                                              Array.size cs16 = (33 : Nat) ∧
                                                v14 = Value.agg cs16 ∧
                                                  eqAgg Try.prog (28 : Nat) cs13 cs16 fun (t17 : Bool) =>
                                                    br t17
                                                      (∃ (cs18 : Array Value),
                                                        row h15 (Addr.mk b0 (0 : Nat) none) (33 : Nat) = some cs18 ∧
                                                          ∃ (cs19 : Array Value),
                                                            row h15 (Addr.mk b2 (0 : Nat) none) (33 : Nat) = some cs19 ∧
                                                              ∃ (cs20 : Array Value),
                                                                row h15 (Addr.mk b0 (0 : Nat) none) (33 : Nat) = some cs20 ∧
                                                                  ∃ (cs21 : Array Value),
                                                                    row h15 (Addr.mk b2 (0 : Nat) none) (33 : Nat) = some cs21 ∧
                                                                      CallsH Try.prog n_prefix_Within #[Value.agg cs18, Value.agg cs19] h15 fun (v22 : Value) (h23 : Heap) =>
                                                                        Ext h15 h23 ∧
                                                                          ∃ (t24 : Bool),
                                                                            v22 = Value.bool t24 ∧
                                                                              CallsH Try.prog n_ref03_Within #[Value.agg cs20, Value.agg cs21] h23 fun (v25 : Value) (h26 : Heap) =>
                                                                                Ext h23 h26 ∧ ∃ (t27 : Bool), v25 = Value.bool t27 ∧ R (Value.bool (t24 == t27)) h26)
                                                      (R (Value.bool false) h15))
              (R (Value.bool false) h5)
theorem C_law03_PrefixMeets (p : Array Value) (q : Array Value) {h : Heap} {R : Value → Heap → Prop} (H : F_law03_PrefixMeets p q h R) : CallsH Try.prog n_law03_PrefixMeets [(.agg p), (.agg q)].toArray h R :=
  fn_sound (A := A_law03_PrefixMeets) (Eq.mp (by kernel_rfl : F_law03_PrefixMeets p q h R = fnVc Go.Proofs.Try.prog A_law03_PrefixMeets 7 [(.agg p), (.agg q)] h R) H)

/- rolodex/rolodexlaw03.PrefixGrows -/
def A_law03_PrefixGrows : Ann := { qs := [9, 10, 11, 12, 13, 14, 15, 16, 17, 18, 19, 20, 21, 22, 23, 24, 25, 26, 27, 28, 29, 30, 32], cuts := [(6, []), (7, [(10, .blk), (11, .bool)])], plans := [(4, (.alt 0 (.take 1 (.take 2 (.take 3 (.take 4 (.take 5 (.take 6 (.take 7 (.take 8 (.take 9 (.take 10 (.take 11 (.take 12 (.take 14 (.alt 13 (.take 15 (.take 16 (.take 17 (.take 18 (.take 19 (.alt 20 (.take 21 (.take 22 (.take 23 (.take 24 (.take 25 (.alt 26 (.take 27 (.take 28 (.take 29 (.take 30 (.take 31 (.alt 32 (.take 33 .done) .stop)))))) .stop)))))) .stop)))))) .stop)))))))))))))) .stop)), (6, (.take 0 (.take 1 (.take 2 (.take 3 (.alt 4 (.alt 5 (.take 6 (.take 7 (.take 8 (.alt 9 (.alt 10 (.take 11 .done) .stop) .stop)))) (.alt 9 (.alt 5 (.take 6 (.take 7 (.take 8 (.alt 10 (.take 11 .done) .stop)))) .stop) .stop)) (.alt 9 (.alt 4 (.alt 5 (.take 6 (.take 7 (.take 8 (.alt 10 (.take 11 .done) .stop)))) .stop) .stop) .stop))))))), (7, (.take 0 (.take 1 (.take 2 (.take 3 (.take 4 (.take 5 (.take 6 (.alt 7 (.take 8 (.take 9 (.take 10 (.take 11 (.take 12 (.take 14 (.take 15 (.alt 13 (.alt 16 (.take 17 (.take 18 (.take 19 .done))) .stop) .stop)))))))) .stop)))))))))] }
def F_law03_PrefixGrows (k : Array Value) (n : Int) (h : Heap) (R : Value → Heap → Prop) : Prop :=
  newBlk h (23 : Nat) k fun (b0 : Nat) (h1 : Heap) =>
  ∃ (cs2 : Array Value),
    row h1 (Addr.mk b0 (0 : Nat) none) (32 : Nat) = some cs2 ∧
      CallsH Try.prog n_prefix_Cut #[Value.agg cs2, Value.int IntKind.i64 (IntKind.wrap IntKind.i64 n)] h1 fun (v3 : Value) (h4 : Heap) =>
        Ext h1 h4 ∧
          ∃ (cs5 : Array Value),
            Array.size cs5 = (33 : Nat) ∧
              v3 = Value.agg cs5 ∧
                newBlk h4 (28 : Nat) (List.toArray (Value.int IntKind.i64 (0 : Int) :: List.replicate (32 : Nat) (Value.int IntKind.u8 (0 : Int)))) fun (b6 : Nat) (h7 : Heap) =>
                  storeP (some (33 : Nat)) h7 (Addr.mk b6 (0 : Nat) none) (Value.agg cs5) fun (h8 : Heap) =>
                    ∃ (cs9 : Array Value),
                      row h8 (Addr.mk b6 (0 : Nat) none) (33 : Nat) = some cs9 ∧
                        CallsH Try.prog n_prefix_Child #[Value.agg cs9, Value.int IntKind.i64 (0 : Int)] h8 fun (v10 : Value) (h11 : Heap) =>
                          Ext h8 h11 ∧
                            ∃ (cs12 : Array Value),
                              Array.size cs12 = (33 : Nat) ∧
                                ∃ (t13 : Bool),
                                  v10 = Value.tuple #[Value.agg cs12, Value.bool t13] ∧
                                    newBlk h11 (28 : Nat) (List.toArray (Value.int IntKind.i64 (0 : Int) :: List.replicate (32 : Nat) (Value.int IntKind.u8 (0 : Int)))) fun (b14 : Nat) (h15 : Heap) =>
                                      storeP (some (33 : Nat)) h15 (Addr.mk b14 (0 : Nat) none) (Value.agg cs12) fun (h16 : Heap) =>
                                        ∃ (cs17 : Array Value),
                                          row h16 (Addr.mk b6 (0 : Nat) none) (33 : Nat) = some cs17 ∧
                                            CallsH Try.prog n_prefix_Child #[Value.agg cs17, Value.int IntKind.i64 (1 : Int)] h16 fun (v18 : Value) (h19 : Heap) =>
                                              Ext h16 h19 ∧
                                                ∃ (cs20 : Array Value),
                                                  Array.size cs20 = (33 : Nat) ∧
                                                    ∃ (t21 : Bool),
                                                      v18 = Value.tuple #[Value.agg cs20, Value.bool t21] ∧
                                                        newBlk h19 (28 : Nat) (List.toArray (Value.int IntKind.i64 (0 : Int) :: List.replicate (32 : Nat) (Value.int IntKind.u8 (0 : Int))))
                                                          fun (b22 : Nat) (h23 : Heap) =>
                                                          storeP (some (33 : Nat)) h23 (Addr.mk b22 (0 : Nat) none) (Value.agg cs20) fun (h24 : Heap) =>
                                                            ∃ (J25 : PUnit → Heap → Prop),
                                                              (CallsH Try.prog n_law03_awake #[] h24 fun (v26 : Value) (h27 : Heap) =>
                                                                  Ext h24 h27 ∧
                                                                    ∃ (t28 : Bool),
                                                                      v26 = Value.bool t28 ∧
                                                                        br (!t28) (R (Value.bool false) h27)
                                                                          (br (!t13) (R (Value.bool false) h27)
                                                                            (br (!t21) (R (Value.bool false) h27)
                                                                              (∃ (cs29 : Array Value),
                                                                                row h27 (Addr.mk b14 (0 : Nat) none) (33 : Nat) = some cs29 ∧
                                                                                  ∃ (cs30 : Array Value),
                                                                                    row h27 (Addr.mk b22 (0 : Nat) none) (33 : Nat) = some cs30 ∧
                                                                                      ∃ (cs31 : Array Value),
                                                                                        row h27 (Addr.mk b6 (0 : Nat) none) (33 : Nat) = some cs31 ∧
                                                                                          CallsH Try.prog n_prefix_Meet #[Value.agg cs29, Value.agg cs30] h27 fun (v32 : Value) (h33 : Heap) =>
                                                                                            Ext h27 h33 ∧
                                                                                              ∃ (cs34 : Array Value),
                                                                                                Array.size cs34 = (33 : Nat) ∧
                                                                                                  v32 = Value.agg cs34 ∧
                                                                                                    eqAgg Try.prog (28 : Nat) cs34 cs31 fun (t35 : Bool) =>
                                                                                                      br (!t35) (R (Value.bool false) h33)
                                                                                                        (∃ (cs36 : Array Value),
                                                                                                          row h33 (Addr.mk b6 (0 : Nat) none) (33 : Nat) = some cs36 ∧
                                                                                                            ∃ (cs37 : Array Value),
                                                                                                              row h33 (Addr.mk b14 (0 : Nat) none) (33 : Nat) = some cs37 ∧
                                                                                                                CallsH Try.prog n_prefix_Within #[Value.agg cs36, Value.agg cs37] h33
                                                                                                                  fun (v38 : Value) (h39 : Heap) =>
                                                                                                                  Ext h33 h39 ∧
                                                                                                                    ∃ (t40 : Bool),
                                                                                                                      v38 = Value.bool t40 ∧
                                                                                                                        br (!t40) (R (Value.bool false) h39)
                                                                                                                          (∃ (cs41 : Array Value),
                                                                                                                            row h39 (Addr.mk b6 (0 : Nat) none) (33 : Nat) = some cs41 ∧
                                                                                                                              ∃ (cs42 : Array Value),
                                                                                                                                row h39 (Addr.mk b22 (0 : Nat) none) (33 : Nat) = some cs42 ∧
                                                                                                                                  CallsH Try.prog n_prefix_Within #[Value.agg cs41, Value.agg cs42] h39
                                                                                                                                    fun (v43 : Value) (h44 : Heap) =>
                                                                                                                                    Ext h39 h44 ∧
                                                                                                                                      ∃ (t45 : Bool),
                                                                                                                                        v43 = Value.bool t45 ∧
                                                                                                                                          br (!t45) (R (Value.bool false) h44)
                                                                                                                                            (∃ (cs46 : Array Value),
                                                                                                                                              row h44 (Addr.mk b14 (0 : Nat) none) (33 : Nat) =
                                                                                                                                                  some cs46 ∧
                                                                                                                                                ∃ (cs47 : Array Value),
                                                                                                                                                  row h44 (Addr.mk b6 (0 : Nat) none) (33 : Nat) =
                                                                                                                                                      some cs47 ∧
                                                                                                                                                    CallsH Try.prog n_prefix_Within
                                                                                                                                                      #[Value.agg cs46, Value.agg cs47] h44
                                                                                                                                                      fun (v48 : Value) (h49 : Heap) =>
                                                                                                                                                      Ext h44 h49 ∧
                                                                                                                                                        ∃ (t50 : Bool),
                                                                                                                                                          v48 = Value.bool t50 ∧
                                                                                                                                                            br t50 (R (Value.bool false) h49)
                                                                                                                                                              (J25 () h49)))))))) ∧
                                                                ∀ (x51 : PUnit) (h52 : Heap),
                                                                  J25 x51 h52 →
                                                                    ∃ (J53 : Nat × Bool → Heap → Prop),
                                                                      (∃ (cs54 : Array Value),
                                                                          row h52 (Addr.mk b6 (0 : Nat) none) (33 : Nat) = some cs54 ∧
                                                                            ∃ (cs55 : Array Value),
                                                                              row h52 (Addr.mk b0 (0 : Nat) none) (32 : Nat) = some cs55 ∧
                                                                                (CallsH Try.prog n_prefix_Bit #[Value.agg cs55, Value.int IntKind.i64 (IntKind.wrap IntKind.i64 n)] h52
                                                                                    fun (v56 : Value) (h57 : Heap) =>
                                                                                    Ext h52 h57 ∧
                                                                                      ∃ (n58 : Int),
                                                                                        v56 = Value.int IntKind.i64 n58 ∧
                                                                                          (CallsH Try.prog n_prefix_Child #[Value.agg cs54, Value.int IntKind.i64 n58] h57 fun (v59 : Value) (h60 : Heap) =>
                                                                                              Ext h57 h60 ∧
                                                                                                ∃ (cs61 : Array Value),
                                                                                                  Array.size cs61 = (33 : Nat) ∧
                                                                                                    ∃ (t62 : Bool),
                                                                                                      v59 = Value.tuple #[Value.agg cs61, Value.bool t62] ∧
                                                                                                        newBlk h60 (28 : Nat)
                                                                                                          (List.toArray
                                                                                                            (Value.int IntKind.i64 (0 : Int) ::
                                                                                                              List.replicate (32 : Nat) (Value.int IntKind.u8 (0 : Int))))
                                                                                                          fun (b63 : Nat) (h64 : Heap) =>
                                                                                                          storeP (some (33 : Nat)) h64 (Addr.mk b63 (0 : Nat) none) (Value.agg cs61) fun (h65 : Heap) =>
                                                                                                            J53 (b63, t62) h65) ∧
                                                                                            newBlk h57 (28 : Nat)
                                                                                              (List.toArray
                                                                                                (Value.int IntKind.i64 (0 : Int) :: List.replicate (32 : Nat) (Value.int IntKind.u8 (0 : Int))))
                                                                                              fun (b66 : Nat) (h67 : Heap) =>
                                                                                              CallsH Try.prog n_prefix_Child #[Value.agg cs54, Value.int IntKind.i64 n58] h67
                                                                                                fun (v68 : Value) (h69 : Heap) =>
                                                                                                Ext h67 h69 ∧
                                                                                                  ∃ (cs70 : Array Value),
                                                                                                    Array.size cs70 = (33 : Nat) ∧
                                                                                                      ∃ (t71 : Bool),
                                                                                                        v68 = Value.tuple #[Value.agg cs70, Value.bool t71] ∧
                                                                                                          storeP (some (33 : Nat)) h69 (Addr.mk b66 (0 : Nat) none) (Value.agg cs70) fun (h72 : Heap) =>
                                                                                                            J53 (b66, t71) h72) ∧
                                                                                  newBlk h52 (28 : Nat)
                                                                                    (List.toArray (Value.int IntKind.i64 (0 : Int) :: List.replicate (32 : Nat) (Value.int IntKind.u8 (0 : Int))))
                                                                                    fun (b73 : Nat) (h74 : Heap) =>
                                                                                    CallsH Try.prog n_prefix_Bit #[Value.agg cs55, Value.int IntKind.i64 (IntKind.wrap IntKind.i64 n)] h74
                                                                                      fun (v75 : Value) (h76 : Heap) =>
                                                                                      Ext h74 h76 ∧
                                                                                        ∃ (n77 : Int),
                                                                                          v75 = Value.int IntKind.i64 n77 ∧
                                                                                            CallsH Try.prog n_prefix_Child #[Value.agg cs54, Value.int IntKind.i64 n77] h76
                                                                                              fun (v78 : Value) (h79 : Heap) =>
                                                                                              Ext h76 h79 ∧
                                                                                                ∃ (cs80 : Array Value),
                                                                                                  Array.size cs80 = (33 : Nat) ∧
                                                                                                    ∃ (t81 : Bool),
                                                                                                      v78 = Value.tuple #[Value.agg cs80, Value.bool t81] ∧
                                                                                                        storeP (some (33 : Nat)) h79 (Addr.mk b73 (0 : Nat) none) (Value.agg cs80) fun (h82 : Heap) =>
                                                                                                          J53 (b73, t81) h82) ∧
                                                                        ∀ (s83 : Nat × Bool) (h84 : Heap),
                                                                          J53 s83 h84 →
                                                                            br (Prod.snd s83)
                                                                              (∃ (cs85 : Array Value),
                                                                                row h84 (Addr.mk (Prod.fst s83) (0 : Nat) none) (33 : Nat) = some cs85 ∧
                                                                                  ∃ (cs86 : Array Value),
                                                                                    row h84 (Addr.mk b0 (0 : Nat) none) (32 : Nat) = some cs86 ∧
                                                                                      CallsH Try.prog n_prefix_Cut
                                                                                        #[Value.agg cs86, Value.int IntKind.i64 (IntKind.wrap IntKind.i64 (IntKind.wrap IntKind.i64 n + (1 : Int)))] h84
                                                                                        fun (v87 : Value) (h88 : Heap) =>
                                                                                        Ext h84 h88 ∧
                                                                                          ∃ (cs89 : Array Value),
                                                                                            Array.size cs89 = (33 : Nat) ∧
                                                                                              v87 = Value.agg cs89 ∧
                                                                                                eqAgg Try.prog (28 : Nat) cs85 cs89 fun (t90 : Bool) =>
                                                                                                  br t90
                                                                                                    (∃ (cs91 : Array Value),
                                                                                                      row h88 (Addr.mk b14 (0 : Nat) none) (33 : Nat) = some cs91 ∧
                                                                                                        ∃ (cs92 : Array Value),
                                                                                                          row h88 (Addr.mk b0 (0 : Nat) none) (32 : Nat) = some cs92 ∧
                                                                                                            ∃ (cs93 : Array Value),
                                                                                                              row h88 (Addr.mk b22 (0 : Nat) none) (33 : Nat) = some cs93 ∧
                                                                                                                ∃ (cs94 : Array Value),
                                                                                                                  row h88 (Addr.mk b0 (0 : Nat) none) (32 : Nat) = some cs94 ∧
                                                                                                                    CallsH Try.prog n_prefix_Holds #[Value.agg cs91, Value.agg cs92] h88
                                                                                                                      fun (v95 : Value) (h96 : Heap) =>
                                                                                                                      Ext h88 h96 ∧
                                                                                                                        ∃ (t97 : Bool),
                                                                                                                          v95 = Value.bool t97 ∧
                                                                                                                            CallsH Try.prog n_prefix_Holds #[Value.agg cs93, Value.agg cs94] h96
                                                                                                                              fun (v98 : Value) (h99 : Heap) =>
                                                                                                                              Ext h96 h99 ∧
                                                                                                                                ∃ (t100 : Bool),
                                                                                                                                  v98 = Value.bool t100 ∧ R (Value.bool !t97 == t100) h99)
                                                                                                    (R (Value.bool false) h88))
                                                                              (R (Value.bool false) h84)
theorem C_law03_PrefixGrows (k : Array Value) (n : Int) {h : Heap} {R : Value → Heap → Prop} (H : F_law03_PrefixGrows k n h R) : CallsH Try.prog n_law03_PrefixGrows [(.agg k), (.int .u8 n)].toArray h R :=
  fn_sound (A := A_law03_PrefixGrows) (Eq.mp (by kernel_rfl : F_law03_PrefixGrows k n h R = fnVc Go.Proofs.Try.prog A_law03_PrefixGrows 8 [(.agg k), (.int .u8 n)] h R) H)

end Go.Proofs.Ytnaeicepapokjaa
