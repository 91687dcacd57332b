/- Layer 10: the vault's Replace; VaultNone. -/
import Derived.Test.Ytbmhphnidfpclaavi
set_option linter.unusedVariables false
set_option maxRecDepth 100000
namespace Go.Proofs.Ytbmhphnidfpclaa
open Go Go.Vc Go.Proofs
theorem saveT_wf {V : VT} {n : Nat} (w : V.D.Wf n) (s' : Vs) : (saveT V s').2.D.Wf n ∧ (saveT V s').2.L = V.L ∧ (saveT V s').2.D.queue.length ≤ V.D.queue.length + 1 := ⟨vsaveD_wf w _, rfl, vsaveD_q _⟩
theorem saveT_s {V : VT} {s' : Vs} (h : (saveT V s').1 = 0) : (saveT V s').2.s = s' ∧ (saveT V s').2.D.down = false := by
  unfold saveT at h ⊢
  dsimp only at h ⊢
  rw [if_pos h]
  exact ⟨rfl, saveD_up h⟩
section
variable {h0 h : Heap} {F : List HP} {b d n lb : Nat} {V : VT}
theorem replace_ok {S : List Pg} {p : Option Addr} {l c : Nat} (hd : V.L.d = d) (hs : St h0 h (Vv b d V.s (some (Addr.mk lb 0 none)) V.ov :: Lv lb V.L :: Dv d V.D :: F)) (hS : Bls h0 p l S) (hl : l ≤ 1000) (w : V.D.Wf n) (lw : V.L.Wf n) (hn : 2 ≤ n)
    (hl1 : 1 ≤ V.s.least) (hlg : V.s.least ≤ V.s.gen) (hg : V.s.gen < 4294967296) (hq : V.D.queue.length ≤ 40000) :
    CallsH Try.prog n_vault_Vault_Replace #[ptr b, .slice p l c] h fun v h' => v = .int .i64 (replaceT n V (rL S)).1 ∧
      (replaceT n V (rL S)).2.L.d = d ∧ (replaceT n V (rL S)).2.L.Wf n ∧ (replaceT n V (rL S)).2.D.Wf n ∧ (replaceT n V (rL S)).2.D.queue.length ≤ V.D.queue.length + 55 * l + 2 ∧
      ∃ lb', St h0 h' (Vv b d (replaceT n V (rL S)).2.s (some (Addr.mk lb' 0 none)) (replaceT n V (rL S)).2.ov :: Lv lb' (replaceT n V (rL S)).2.L :: Dv d (replaceT n V (rL S)).2.D :: F) := by
  refine C_vault_Vault_Replace (some (Addr.mk b 0 none)) p l c ?_
  unfold F_vault_Vault_Replace
  have hrl : (rL S).length = l := by simp [rL, hS.1]
  refine br_no rfl ?_
  simp only [deref_some, add_mk, Nat.zero_add]
  refine ⟨V.ov, St.cell0 (i := 5) hs rfl, ?_⟩
  unfold replaceT
  cases hov : V.ov
  rotate_left
  · rw [if_pos rfl]
    refine br_yes rfl ⟨rfl, hd, lw, w, by dsimp only; omega, lb, ?_⟩
    rw [hov] at hs ⊢
    exact hs
  rw [if_neg (by simp)]
  refine br_no rfl ?_
  refine (fits_ok hs.at hs.up2.at w hn (hS.ext hs.ext) (by omega)).mono fun v h3 ⟨hv, hh⟩ => ?_
  subst hh
  refine ⟨_, hv, ?_⟩
  rw [br_bne]
  refine ⟨fun hne => ?_, fun heq => ?_⟩
  · rw [if_pos hne]
    refine ⟨rfl, hd, lw, w, by dsimp only; omega, lb, ?_⟩
    rw [hov] at hs
    rw [hov]
    exact hs
  rw [if_neg (by simpa using heq)]
  obtain ⟨f1, f2, f3⟩ := fits_zero heq
  refine ⟨_, St.rowAt (i := 1) (n := 3) hs (by simp), ?_⟩
  refine hs.newBlk fun b7 h8 _ st _ => ?_
  refine st.storeAll (by simp) (by simp) (by intro v hv; simp at hv; rcases hv with rfl | rfl | rfl <;> rfl) fun h9 st => ?_
  have st : St h0 h9 (pts b7 0 false [.bool V.s.sec, .int .u32 V.s.least, .int .u32 V.s.gen] :: Vv b d V.s (some (Addr.mk lb 0 none)) V.ov :: Lv lb V.L :: Dv d V.D :: F) := st
  have hwg : IntKind.wrap .u32 ((V.s.gen : Int) + 1) = ((V.s.gen + 1 : Nat) : Int) := by rw [wrap_u32]; omega
  refine ⟨_, st.cell0 (i := 2) rfl, st.store0 (i := 2) (by simp) rfl fun h11 st => ?_⟩
  rw [hwg] at st
  refine ⟨_, st.row0 rfl, ?_⟩
  have st : St h0 h11 (pts b7 0 false [.bool V.s.sec, .int .u32 V.s.least, .int .u32 ((V.s.gen + 1 : Nat) : Int)] :: Vv b d V.s (some (Addr.mk lb 0 none)) V.ov :: Lv lb V.L :: Dv d V.D :: F) := st
  refine (vsave_ok (L := V.L) (st.up3.up2) w (by omega) V.s.next (by show V.s.least < _; omega) (by show V.s.gen + 1 < _; omega)).mono fun v h14 ⟨hv, st⟩ => ⟨_, hv, ?_⟩
  have eV : (⟨V.s, V.ov, V.L, V.D⟩ : VT) = V := rfl
  rw [eV] at st ⊢
  obtain ⟨w1, e1, q1⟩ := saveT_wf w V.s.next
  have sS := @saveT_s V V.s.next
  generalize saveT V V.s.next = R1 at *
  rw [br_bne]
  refine ⟨fun hne => ?_, fun heq => ?_⟩
  · rw [if_pos hne]
    refine ⟨rfl, by rw [e1]; exact hd, by rw [e1]; exact lw, w1, by omega, lb, ?_⟩
    rw [e1]
    exact (st.up2.drop).up2.up1
  rw [if_neg (by simpa using heq)]
  obtain ⟨es, ed⟩ := sS heq
  have hb : ∀ e ∈ S, e.2.length ≤ 6000 := fun e he => f1 _ (List.mem_map.2 ⟨e, he, rfl⟩)
  refine ⟨_, st.up2.row0 rfl, ?_⟩
  have hcs : #[Value.bool V.s.sec, .int .u32 V.s.least, .int .u32 ((V.s.gen + 1 : Nat) : Int)] = #[.bool R1.2.s.sec, .int .u32 R1.2.s.least, .int .u32 R1.2.s.gen] := by rw [es]; rfl
  have hg1 : R1.2.s.gen = V.s.gen + 1 := by rw [es]; rfl
  show CallsH Try.prog n_vault_Vault_fill #[ptr b, .agg #[Value.bool V.s.sec, .int .u32 V.s.least, .int .u32 ((V.s.gen + 1 : Nat) : Int)], .slice p l c] h14 _
  rw [hcs]
  refine (fill_ok st hS hl w1 ed hn (by omega) (by omega) (by omega) hb).mono fun v h18 ⟨lb2, p19, hv, hp, st⟩ => ⟨p19, _, hv, ?_⟩
  unfold replace1
  rw [e1, hd]
  obtain ⟨k1, k2, k3, k4⟩ := fillD_same (rL S) (openL n d R1.2.s.swap R1.2.D) R1.2.D (openL_wf w1 hn (by show R1.2.s.gen < _; omega)) w1
  have k2 : (fillD (openL n d R1.2.s.swap R1.2.D) R1.2.D (rL S)).2.1.d = d := k2
  generalize fillD (openL n d R1.2.s.swap R1.2.D) R1.2.D (rL S) = FD at *
  rw [br_bne]
  refine ⟨fun hne => ?_, fun heq2 => ?_⟩
  · rw [if_pos hne]
    refine (vdone_ok (st.up2) _).mono fun v h22 ⟨hv, st⟩ => ⟨_, hv, rfl, hd, lw, k3, by dsimp only; omega, lb, ?_⟩
    exact ((st.up1.drop).up2.drop).up2.up1
  rw [if_neg (by simpa using heq2)]
  have hp := hp heq2
  subst hp
  refine ⟨_, st.up3.cell0 (i := 0) rfl, _, st.up3.cell0 (i := 2) rfl, _, st.up3.cell0 (i := 2) rfl, ?_⟩
  have es2 : R1.2.s.swap = ⟨!V.s.sec, V.s.gen + 1, V.s.gen + 1⟩ := by rw [es]; rfl
  have es3 : (⟨R1.2.s, R1.2.ov, R1.2.L, FD.2.2⟩ : VT) = ⟨R1.2.s, R1.2.ov, V.L, FD.2.2⟩ := by rw [e1]
  refine (vsave_ok (L := R1.2.L) (st.up1.up2) k3 (by omega) ⟨!V.s.sec, V.s.gen + 1, V.s.gen + 1⟩ (by dsimp only; omega) (by dsimp only; omega)).mono fun v h28 ⟨hv, st⟩ => ⟨_, hv, ?_⟩
  rw [← es2, es3] at st ⊢
  obtain ⟨w2, e2, q2⟩ := saveT_wf (V := ⟨R1.2.s, R1.2.ov, V.L, FD.2.2⟩) k3 R1.2.s.swap
  unfold replace2
  generalize saveT ⟨R1.2.s, R1.2.ov, V.L, FD.2.2⟩ R1.2.s.swap = R2 at *
  dsimp only at q2
  rw [br_bne]
  refine ⟨fun hne => ?_, fun heq3 => ?_⟩
  · rw [if_pos hne]
    refine ⟨rfl, by rw [e2]; exact hd, by rw [e2]; exact lw, w2, by omega, lb, ?_⟩
    rw [e2]
    exact ((st.up2.drop).up2.drop).up2.up1
  · rw [if_neg (by simpa using heq3)]
    unfold Vv at st
    refine st.store0 (i := 4) (by simp) rfl fun h31 st => ⟨rfl, k2, k1, w2, by dsimp only; omega, lb2, ?_⟩
    unfold Vv
    simp only [List.set_cons_succ, List.set_cons_zero] at st
    exact ((st.up3.drop).up3.drop).up2.up1
end
end Go.Proofs.Ytbmhphnidfpclaa
