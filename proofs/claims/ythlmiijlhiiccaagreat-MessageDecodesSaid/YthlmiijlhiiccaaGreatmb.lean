/- Layer 18: what the encoder puts. -/
import Derived.Test.YthlmiijlhiiccaaGreatma
set_option linter.unusedVariables false
set_option maxRecDepth 100000
namespace Go.Proofs.YthlmiijlhiiccaaGreat
open Go Go.Vc Go.Proofs Go.Vc.Keys
section
variable {h0 h : Heap} {F : List HP} {b N : Nat} {o : OB}
/-- What a put does to a writer. -/
def Did (h0 : Heap) (F : List HP) (b N : Nat) (o : OB) (v : Value) (h' : Heap) : Prop := v = unit ∧ St h0 h' (Wo b o N :: F)
theorem Did.mono {M : Nat} {v : Value} {h' : Heap} (d : Did h0 F b N o v h') (h1 : N ≤ M) : Did h0 F b M o v h' := ⟨d.1, Wo.mono d.2 h1⟩
theorem ou8_ok (hs : St h0 h (Wo b o N :: F)) (x : Int) (hN : N ≤ 1000000000) : CallsH Tryz.prog n_wire_Writer_U8 #[ptr b, .int .i64 x] h (Did h0 F b (N + 1) (app o (encI 1 0 255 x))) :=
  wo_put hs (fun xs e => by unfold encI at e; split at e; cases e; simp [numB_length]; cases e) fun bs sp hl s => u8_put s x (by omega)
theorem ou16_ok (hs : St h0 h (Wo b o N :: F)) (x : Int) (hN : N ≤ 1000000000) : CallsH Tryz.prog n_wire_Writer_U16 #[ptr b, .int .i64 x] h (Did h0 F b (N + 2) (app o (encI 2 0 65535 x))) :=
  wo_put hs (fun xs e => by unfold encI at e; split at e; cases e; simp [numB_length]; cases e) fun bs sp hl s => u16_put s x (by omega)
theorem ou32_ok (hs : St h0 h (Wo b o N :: F)) (x : Nat) (hx : x < 4294967296) (hN : N ≤ 1000000000) : CallsH Tryz.prog n_wire_Writer_U32 #[ptr b, .int .u32 x] h (Did h0 F b (N + 4) (app o (some (numB x 4)))) :=
  wo_put hs (fun xs e => by cases e; simp [numB_length]) fun bs sp hl s => u32_put s x hx (by omega)
theorem oflag_ok (hs : St h0 h (Wo b o N :: F)) (t : Bool) (hN : N ≤ 1000000000) : CallsH Tryz.prog n_wire_Writer_Flag #[ptr b, .bool t] h (Did h0 F b (N + 1) (app o (some (numB (if t then 1 else 0) 1)))) :=
  wo_put hs (fun xs e => by cases e; simp [numB_length]) fun bs sp hl s => flag_put s t (by omega)
theorem ocount_ok (hs : St h0 h (Wo b o N :: F)) (x : Nat) (hN : N ≤ 1000000000) : CallsH Tryz.prog n_wire_Writer_Count #[ptr b, .int .i64 x] h (Did h0 F b (N + 2) (app o (if x ≤ 4096 then some (numB x 2) else none))) := by
  refine wo_put hs (fun xs e => by split at e; cases e; simp [numB_length]; cases e) fun bs sp hl s => ?_
  have := count_put s (x : Int) (by omega)
  by_cases hx : x ≤ 4096
  · rw [if_pos (by omega), Int.toNat_natCast] at this
    rw [if_pos hx]; exact this
  · rw [if_neg (by omega)] at this
    rw [if_neg hx]; exact this
theorem oplain_ok {p : Option Addr} {l c : Nat} {x : Bytes} (hs : St h0 h (Wo b o N :: F)) (hx : Bs h p l x) (hN : N ≤ 1000000000) (hl : x.length ≤ 1000000000) : CallsH Tryz.prog n_wire_Writer_Plain #[ptr b, .slice p l c] h (Did h0 F b (N + x.length) (app o (some x))) :=
  wo_put hs (fun xs e => by cases e; exact Nat.le_refl _) fun bs sp hl s => plain_put s hx (by omega)
theorem ostring_ok {p : Option Addr} {l c : Nat} {x : Bytes} (hs : St h0 h (Wo b o N :: F)) (hx : Bs h0 p l x) (hN : N ≤ 1000000000) (hl : x.length ≤ 1000000000) : CallsH Tryz.prog n_wire_Writer_String #[ptr b, .slice p l c] h (Did h0 F b (N + 2 + x.length) (app o (if x.length ≤ 8192 then some (numB x.length 2 ++ x) else none))) := by
  refine (wo_put (k := 2 + x.length) (F := rdo 1 p l (bcs x) :: F) (hs.old hx.2).up1 (fun xs e => by split at e; cases e; simp [numB_length]; cases e) fun bs sp hl s => string_put s (by omega)).mono fun v h' ⟨hv, s⟩ => ⟨hv, ?_⟩
  have := s.up1.drop
  rw [← Nat.add_assoc] at this
  exact this
theorem espoil_ok (hs : St h0 h (Wo b o N :: F)) (hN : N ≤ 1000000000) : CallsH Tryz.prog n_message_encoder_spoil #[ptr b] h (Did h0 F b N none) := by
  refine C_message_encoder_spoil (some (Addr.mk b 0 none)) ?_
  unfold F_message_encoder_spoil
  rw [deref_some]
  refine (wo_put (e := none) (k := 0) hs (fun xs e => by cases e) fun bs sp hl s => ?_).mono fun v h' ⟨hv, s⟩ => ⟨hv, rfl, by rw [app_none] at s; exact s⟩
  have := u8_put s (-1) (by omega)
  rw [if_neg (by omega)] at this
  exact this
theorem enumber_ok (hs : St h0 h (Wo b o N :: F)) (n : Int) (hN : N ≤ 1000000000) : CallsH Tryz.prog n_message_encoder_number #[ptr b, .int .i64 n] h (Did h0 F b (N + 4) (app o (encN n))) := by
  refine C_message_encoder_number (some (Addr.mk b 0 none)) n ?_
  unfold F_message_encoder_number encN encI
  rw [br_decide]
  refine ⟨fun h1 => ?_, fun h1 => ?_⟩
  · rw [if_neg (by omega), app_none]
    exact (espoil_ok hs hN).mono fun v h' d => ⟨d.1, (d.mono (by omega)).2 |> fun s => ⟨rfl, s⟩⟩
  rw [br_decide]
  refine ⟨fun h2 => ?_, fun h2 => ?_⟩
  · rw [if_neg (by omega), app_none]
    exact (espoil_ok hs hN).mono fun v h' d => ⟨d.1, (d.mono (by omega)).2 |> fun s => ⟨rfl, s⟩⟩
  · rw [if_pos (by omega)]
    have hw : IntKind.wrap .u32 n = ((n.toNat : Nat) : Int) := by rw [wrap_u32]; omega
    rw [hw, deref_some]
    exact (ou32_ok hs n.toNat (by omega) hN).mono fun v h' d => ⟨d.1, rfl, d.2⟩
theorem eerror_ok (hs : St h0 h (Wo b o N :: F)) (n : Int) (hN : N ≤ 1000000000) : CallsH Tryz.prog n_message_encoder_error #[ptr b, .int .i64 n] h (Did h0 F b (N + 1) (app o (encE n))) := by
  refine C_message_encoder_error (some (Addr.mk b 0 none)) n ?_
  unfold F_message_encoder_error encE encI
  rw [br_decide]
  refine ⟨fun h1 => ?_, fun h1 => ?_⟩
  · rw [if_neg (by omega), app_none]
    exact (espoil_ok hs hN).mono fun v h' d => ⟨d.1, (d.mono (by omega)).2 |> fun s => ⟨rfl, s⟩⟩
  rw [br_decide]
  refine ⟨fun h2 => ?_, fun h2 => ?_⟩
  · rw [if_neg (by omega), app_none]
    exact (espoil_ok hs hN).mono fun v h' d => ⟨d.1, (d.mono (by omega)).2 |> fun s => ⟨rfl, s⟩⟩
  · rw [if_pos (by omega)]
    have := ou8_ok hs n hN
    unfold encI at this
    rw [if_pos (by omega)] at this
    rw [deref_some]
    exact this.mono fun v h' d => ⟨d.1, rfl, d.2⟩
theorem etext_ok {c : Value} {x : Bytes} (hs : St h0 h (Wo b o N :: F)) (hx : TxtR h0 c x) (hN : N ≤ 1000000000) : CallsH Tryz.prog n_message_encoder_text #[ptr b, c] h (Did h0 F b (N + 66) (app o (encT x))) := by
  obtain ⟨p, l, cap, rfl, hc, hb⟩ := hx
  refine C_message_encoder_text (some (Addr.mk b 0 none)) p l cap ?_
  unfold F_message_encoder_text encT
  have hl := hb.1
  rw [br_decide]
  refine ⟨fun h1 => ?_, fun h1 => ?_⟩
  · rw [if_neg (by omega), app_none]
    exact (espoil_ok hs hN).mono fun v h' d => ⟨d.1, (d.mono (by omega)).2 |> fun s => ⟨rfl, s⟩⟩
  · rw [if_pos (by omega)]
    have := ostring_ok (c := cap) hs hb hN (by omega)
    rw [if_pos (by omega)] at this
    rw [deref_some]
    exact this.mono fun v h' d => ⟨d.1, rfl, (d.mono (by omega)).2⟩
theorem bs_part {h0 h : Heap} {F : List HP} {b i n : Nat} {r : Bool} {vs : List Value} {x : Bytes} (hs : St h0 h (pts b 0 r vs :: F)) (hi : i + n ≤ vs.length) (e : (vs.drop i).take n = bcs x) : Bs h (some (Addr.mk b i none)) n x := by
  have hrow := hs.rowAt hi
  rw [e] at hrow
  have hl : x.length = n := by
    have := congrArg List.length e
    rw [bcs_length, List.length_take, List.length_drop] at this
    omega
  refine ⟨hl, by simp [hl], ?_⟩
  simp only [src, Nat.mul_one]
  exact hrow
theorem ehash_ok {cs : List Value} {x : Bytes} (hs : St h0 h (Wo b o N :: F)) (hx : HashR h0 cs x) (hN : N ≤ 1000000000) : CallsH Tryz.prog n_message_encoder_hash #[ptr b, .agg cs.toArray] h (Did h0 F b (N + 32) (app o (encH x))) := by
  obtain ⟨hl, rfl⟩ := hx
  refine C_message_encoder_hash (some (Addr.mk b 0 none)) (bcs x).toArray ?_
  unfold F_message_encoder_hash encH
  rw [if_pos hl]
  refine hs.newBlk fun b0 h1 _ st _ => ?_
  simp only [deref_some] at st ⊢
  refine sliceP_to (p := some (Addr.mk b0 0 none)) (c := 32) (n := 32) (by omega) ?_
  have hb := bs_part (i := 0) (n := 32) (x := x) st (by rw [bcs_length]; omega) (by rw [List.drop_zero, List.take_of_length_le (by rw [bcs_length]; omega)])
  have := oplain_ok (c := 32) st.up1 hb hN (by omega)
  rw [hl] at this
  exact this.mono fun v h' d => ⟨d.1, rfl, d.2.up1.drop⟩
theorem elist_body {α : Type} {enc : α → OB} {sz k f : Nat} {R : Rel α} {tid : TypeId} {zero : Array Value} {p : Option Addr} {l cap : Nat} {xs : List α}
    (he : ∀ {h : Heap} {G : List HP} {o : OB} {N : Nat} {cs : List Value} {x : α}, St h0 h (Wo b o N :: G) → cs.length = sz → ones cs → R h0 cs x → N ≤ 990000000 → CallsH Tryz.prog f #[ptr b, .agg cs.toArray] h (Did h0 G b (N + k) (app o (enc x))))
    (hz : 0 < sz) (hzero : zero.size = sz) (hK : Keeps R) (hs : St h0 h (Wo b o N :: F)) (hx : LsR sz R h0 (.slice p l cap) xs) (hN : N + 2 + k * xs.length ≤ 990000000) (hxl : xs.length ≤ 5000) :
    CallsH Tryz.prog n_wire_Writer_Count #[.pointer (some (Addr.mk b 0 none)), .int .i64 (l : Int)] h fun v1 h2 => v1 = .tuple #[] ∧ ∃ (I3 : Int → Heap → Prop), ∃ (μ4 : Int → Heap → Nat), I3 0 h2 ∧ ∀ n5 h6, I3 n5 h6 →
      br (decide (n5 < (l : Int))) (0 ≤ n5 ∧ n5 < (l : Int) ∧ deref p fun a7 => ∃ cs8 : Array Value, row h6 (Addr.add a7 (Int.toNat n5 * sz)) sz = some cs8 ∧ newBlk h6 tid zero fun b9 h10 => storeP (some sz) h10 (Addr.mk b9 0 none) (.agg cs8) fun h11 =>
        ∃ cs12 : Array Value, row h11 (Addr.mk b9 0 none) sz = some cs12 ∧ CallsH Tryz.prog f #[.pointer (some (Addr.mk b 0 none)), .agg cs12] h11 fun v13 h14 => v13 = .tuple #[] ∧ I3 (IntKind.wrap .i64 (n5 + 1)) h14 ∧ μ4 (IntKind.wrap .i64 (n5 + 1)) h14 < μ4 n5 h6)
      (Did h0 F b (N + 2 + k * xs.length) (app o (encL enc xs)) (.tuple #[]) h6) := by
  obtain ⟨q, m, c2, e, hc, hm, hget⟩ := hx.get hz
  cases e
  refine (ocount_ok hs l (by omega)).mono fun v h2 ⟨hv, st⟩ => ⟨hv, ?_⟩
  rw [← hm] at st ⊢
  generalize hcnt : (if xs.length ≤ 4096 then some (numB xs.length 2) else none : OB) = cnt at *
  have hL : encL enc xs = app cnt (encs enc xs) := by rw [encL, hcnt]
  have hsn : ∀ j (hj : j < xs.length), encs enc (xs.take (j + 1)) = app (encs enc (xs.take j)) (enc xs[j]) := by
    intro j hj
    rw [List.take_succ_eq_append_getElem hj]
    generalize xs.take j = ys
    induction ys with
    | nil => rw [List.nil_append, encs, encs, encs, app_nil, nil_app]
    | cons y ys ih => rw [List.cons_append, encs, encs, ih, app_assoc]
  refine ⟨fun i h' => ∃ j : Nat, i = j ∧ j ≤ xs.length ∧ St h0 h' (Wo b (app (app o cnt) (encs enc (xs.take j))) (N + 2 + k * j) :: F), fun i _ => ((xs.length : Int) - i).toNat, ⟨0, rfl, Nat.zero_le _, by rw [List.take_zero, encs, app_nil]; exact st⟩, ?_⟩
  rintro i h6 ⟨j, rfl, hj, st⟩
  rw [br_decide]
  refine ⟨fun hlt => ⟨by omega, hlt, ?_⟩, fun hge => ?_⟩
  · have hjl : j < xs.length := by omega
    obtain ⟨bb, oo, cs, rfl, hrow, hcl, hco, hR⟩ := hget j hjl
    have hkj : k * (j + 1) = k * j + k := Nat.mul_succ k j
    have hkm : k * (j + 1) ≤ k * xs.length := Nat.mul_le_mul_left k (by omega)
    simp only [deref_some, add_mk, Int.toNat_natCast]
    refine ⟨_, st.ext.row hrow, ?_⟩
    refine st.newBlk fun b9 h10 _ st _ => ?_
    refine st.storeAll (by simp [hzero]) (by simp [hcl]) (one_list hco) fun h11 st => ?_
    refine ⟨_, st.row0 (by simp [hcl]), ?_⟩
    refine (he st.up1 hcl hco hR (by omega)).mono fun v h14 ⟨hv, st⟩ => ⟨hv, ?_⟩
    rw [wrap_i64 (by omega) (by omega)]
    refine ⟨⟨j + 1, by omega, by omega, ?_⟩, by omega⟩
    rw [hsn j hjl, hkj, ← app_assoc, ← Nat.add_assoc]
    exact st.up1.drop
  · obtain rfl : j = xs.length := by omega
    rw [List.take_length, app_assoc, ← hL] at st
    exact ⟨rfl, st⟩
end
end Go.Proofs.YthlmiijlhiiccaaGreat
