/- Layer 18: heads and signed heads, taken. -/
import Derived.Test.YthlmiijlhiiccaaGreatdd
import Derived.Test.YthlmiijlhiiccaaGreatmd
set_option linter.unusedVariables false
set_option linter.unusedSimpArgs false
set_option maxRecDepth 100000
namespace Go.Proofs.YthlmiijlhiiccaaGreat
open Go Go.Vc Go.Proofs Go.Vc.Keys
def hdC (s : Sg) : List Value := .int .i64 s.epoch :: .int .i64 s.tick :: (bcs s.tree ++ bcs s.log)
theorem hdC_len {s : Sg} (h1 : s.tree.length = 32) (h2 : s.log.length = 32) : (hdC s).length = 66 := by simp [hdC, bcs_length, h1, h2]
theorem hdC_ones (s : Sg) : ones (hdC s) := ones_cons rfl (ones_cons rfl (ones_app (one_bcs _) (one_bcs _)))
theorem hdR_mk {s : Sg} (h1 : s.tree.length = 32) (h2 : s.log.length = 32) : HdR (hdC s) s := by
  have l2 : (bcs s.tree).length = 32 := by rw [bcs_length, h1]
  have l3 : (bcs s.log).length = 32 := by rw [bcs_length, h2]
  have hl := hdC_len h1 h2
  generalize hcs : hdC s = cs at *
  have d0 : cs.drop 0 = [.int .i64 s.epoch] ++ (.int .i64 s.tick :: (bcs s.tree ++ bcs s.log)) := by rw [← hcs]; rfl
  have d1 := dn d0 rfl (show _ = [Value.int .i64 s.tick] ++ (bcs s.tree ++ bcs s.log) from rfl)
  have d2 := dn d1 rfl (show _ = bcs s.tree ++ bcs s.log from rfl)
  have d3 := dn d2 l2 (show bcs s.log = bcs s.log ++ [] by rw [List.append_nil])
  exact ⟨hl, gt d0, gt d1, tk d2 l2, tk d3 l3, h1, h2⟩
theorem sgR_mk {h : Heap} {s : Sg} {c : Value} (h1 : s.tree.length = 32) (h2 : s.log.length = 32) (hi : I64 s.epoch ∧ I64 s.tick) (hz : TxtR h c s.sig) : SgR h (hdC s ++ [c]) s := by
  have l2 : (bcs s.tree).length = 32 := by rw [bcs_length, h1]
  have l3 : (bcs s.log).length = 32 := by rw [bcs_length, h2]
  have hl : (hdC s ++ [c]).length = 67 := by simp [hdC_len h1 h2]
  have hcs : hdC s ++ [c] = [.int .i64 s.epoch] ++ (.int .i64 s.tick :: (bcs s.tree ++ (bcs s.log ++ [c]))) := by simp [hdC]
  generalize hdC s ++ [c] = cs at *
  have d0 : cs.drop 0 = [.int .i64 s.epoch] ++ (.int .i64 s.tick :: (bcs s.tree ++ (bcs s.log ++ [c]))) := hcs
  have d1 := dn d0 rfl (show _ = [Value.int .i64 s.tick] ++ (bcs s.tree ++ (bcs s.log ++ [c])) from rfl)
  have d2 := dn d1 rfl (show _ = bcs s.tree ++ (bcs s.log ++ [c]) from rfl)
  have d3 := dn d2 l2 (show _ = bcs s.log ++ [c] from rfl)
  have d4 := dn d3 l3 (show _ = [c] ++ [] from rfl)
  exact ⟨hl, gt d0, gt d1, tk d2 l2, tk d3 l3, ⟨c, gt d4, hz⟩, ⟨h1, h2⟩, hi⟩
theorem TxtR.none {h : Heap} : TxtR h (.slice none 0 0) [] := ⟨_, 0, 0, rfl, Nat.le_refl _, rfl, by simp, by rw [Nat.zero_mul]; rfl⟩
def HRes (xs : Bytes) (v : Value) : Prop := (xs.length = 72 ∧ headOk (headB18 xs) ∧ v = .tuple #[.agg (hdC (headB18 xs)).toArray, .int .i64 0]) ∨ (¬ (xs.length = 72 ∧ headOk (headB18 xs)) ∧ v = .tuple #[.agg (hdC zeroSg).toArray, .int .i64 2])
def HLeaf (R : Value → Heap → Prop) (b0 b27 : Nat) (h28 : Heap) (n9 n12 : Int) (cs19 cs26 : Array Value) : Prop :=
  storeP (some 66) h28 (Addr.mk b27 0 none) (.agg (List.toArray (.int .i64 (IntKind.wrap .i64 n9) :: .int .i64 (IntKind.wrap .i64 n12) :: (cs19.toList ++ (cs26.toList ++ []))))) fun h29 =>
    ∃ cs30 : Array Value, row h29 (Addr.mk b27 0 none) 66 = some cs30 ∧ CallsH Tryz.prog n_head_Head_is #[.agg cs30] h29 fun v31 h32 => Ext h29 h32 ∧ ∃ t33, v31 = .bool t33 ∧
      br (!t33) (storeP (some 66) h32 (Addr.mk b0 0 none) (.agg (List.toArray (.int .i64 0 :: .int .i64 0 :: List.replicate 64 (.int .u8 0)))) fun h34 => ∃ cs35 : Array Value, row h34 (Addr.mk b0 0 none) 66 = some cs35 ∧ R (.tuple #[.agg cs35, .int .i64 2]) h34)
        (∃ cs36 : Array Value, row h32 (Addr.mk b27 0 none) 66 = some cs36 ∧ storeP (some 66) h32 (Addr.mk b0 0 none) (.agg cs36) fun h37 => ∃ cs38 : Array Value, row h37 (Addr.mk b0 0 none) 66 = some cs38 ∧ R (.tuple #[.agg cs38, .int .i64 0]) h37)
section
variable {h0 h : Heap} {F : List HP} {rb xb : Nat} {bs : Bytes} {f : Bool}
theorem row_own {a : Addr} {l c : Nat} {x : Bytes} (hs : St h0 h (own 1 (some a) l c (bcs x) :: F)) (hx : x.length = 32) : row h a 32 = some (bcs x).toArray := by
  have hl := St.blen (bs := x) hs
  have hr := (rd_own hs.at).2
  have : l = 32 := by omega
  subst this
  exact hr
theorem hdecode_ok {p : Option Addr} {l c : Nat} {xs : Bytes} (hx : Bs h p l xs) (hlen : l ≤ 70368744177664) : CallsH Tryz.prog n_head_Decode #[.slice p l c] h fun v h' => Ext h h' ∧ HRes xs v := by
  refine C_head_Decode p l c ?_
  unfold F_head_Decode
  refine (St.start h).newBlk fun b0 h1 _ st _ => ?_
  have st : St h h1 [pts b0 0 false (hdC zeroSg)] := st
  have hxl := hx.1
  rw [br_bne]
  refine ⟨fun hne => ?_, fun hne => ?_⟩
  · refine ret18 (l := hdC zeroSg) (K := fun cs3 h2 => Ext h h2 ∧ HRes xs (.tuple #[.agg cs3, .int .i64 2])) st rfl rfl (hdC_ones _) fun h2 st => ⟨st.ext, .inr ⟨fun hh => hne (by omega), rfl⟩⟩
  have h72 : xs.length = 72 := by omega
  refine (rdr_ok (hx.ext st.ext) hlen).mono fun v h5 ⟨r, hv, nw⟩ => ⟨nw.ext, _, hv, ?_⟩
  have st := st.join nw
  have st : St h h5 [W r xs false, pts b0 0 false (hdC zeroSg)] := st
  have e1 : numR xs false 4 = (valB (xs.take 4), xs.drop 4, false) := by unfold numR; rw [if_pos ⟨rfl, by omega⟩]
  have e2 : numR (xs.drop 4) false 4 = (valB ((xs.drop 4).take 4), xs.drop 8, false) := by unfold numR; rw [if_pos ⟨rfl, by simp; omega⟩, List.drop_drop]
  have e3 : takeR (xs.drop 8) false 32 = ((xs.drop 8).take 32, xs.drop 40, false) := by unfold takeR; rw [if_pos ⟨rfl, by omega, by simp; omega⟩, show (32 : Int).toNat = 32 from rfl, List.drop_drop]
  have e4 : takeR (xs.drop 40) false 32 = (xs.drop 40, xs.drop 72, false) := by unfold takeR; rw [if_pos ⟨rfl, by omega, by simp; omega⟩, show (32 : Int).toNat = 32 from rfl, List.drop_drop, List.take_of_length_le (by simp; omega)]
  have u1 : ∀ {g : Heap} {G : List HP}, St h g (W r xs false :: G) → CallsH Tryz.prog n_wire_Reader_U32 #[ptr r] g fun v g' => v = .int .u32 (valB (xs.take 4) : Nat) ∧ St h g' (W r (xs.drop 4) false :: G) := fun s => by
    have := rU32_ok s
    rw [e1] at this
    exact this
  have u2 : ∀ {g : Heap} {G : List HP}, St h g (W r (xs.drop 4) false :: G) → CallsH Tryz.prog n_wire_Reader_U32 #[ptr r] g fun v g' => v = .int .u32 (valB ((xs.drop 4).take 4) : Nat) ∧ St h g' (W r (xs.drop 8) false :: G) := fun s => by
    have := rU32_ok s
    rw [e2] at this
    exact this
  have lA : ((xs.drop 8).take 32).length = 32 := by simp; omega
  have lB : (xs.drop 40).length = 32 := by simp; omega
  have q1 : ∀ {g : Heap} {G : List HP}, St h g (W r (xs.drop 8) false :: G) → CallsH Tryz.prog n_wire_Reader_Plain #[ptr r, .int .i64 32] g fun v g' => ∃ p l c, v = .slice p l c ∧ ∃ a, p = some a ∧ 32 ≤ l ∧ St h g' (W r (xs.drop 40) false :: own 1 (some a) l c (bcs ((xs.drop 8).take 32)) :: G) := fun s => by
    have := rPlain_ok s 32
    rw [e3] at this
    refine this.mono fun v g' ⟨p, l, c, hv, s⟩ => ⟨p, l, c, hv, ?_⟩
    have hl := St.blen (bs := (xs.drop 8).take 32) s.up1
    obtain ⟨a, rfl, _⟩ := (rd_own s.up1.at).cell (i := 0) (by rw [bcs_length, lA]; omega)
    exact ⟨a, rfl, by omega, s⟩
  have q2 : ∀ {g : Heap} {G : List HP}, St h g (W r (xs.drop 40) false :: G) → CallsH Tryz.prog n_wire_Reader_Plain #[ptr r, .int .i64 32] g fun v g' => ∃ p l c, v = .slice p l c ∧ ∃ a, p = some a ∧ 32 ≤ l ∧ St h g' (W r (xs.drop 72) false :: own 1 (some a) l c (bcs (xs.drop 40)) :: G) := fun s => by
    have := rPlain_ok s 32
    rw [e4] at this
    refine this.mono fun v g' ⟨p, l, c, hv, s⟩ => ⟨p, l, c, hv, ?_⟩
    have hl := St.blen (bs := xs.drop 40) s.up1
    obtain ⟨a, rfl, _⟩ := (rd_own s.up1.at).cell (i := 0) (by rw [bcs_length, lB]; omega)
    exact ⟨a, rfl, by omega, s⟩
  have hE := valB_le (bs := xs.take 4) (n := 4) (by simp; omega)
  have hT := valB_le (bs := (xs.drop 4).take 4) (n := 4) (by simp; omega)
  have leaf : ∀ {g : Heap} {b27 : Nat} {vs : List Value} {G : List HP}, vs.length = 66 → St h g (pts b27 0 false vs :: pts b0 0 false (hdC zeroSg) :: G) → HLeaf (fun v h' => Ext h h' ∧ HRes xs v) b0 b27 g (valB (xs.take 4) : Nat) (valB ((xs.drop 4).take 4) : Nat) (bcs ((xs.drop 8).take 32)).toArray (bcs (xs.drop 40)).toArray := by
    intro g b27 vs G hvs st
    unfold HLeaf
    rw [wrap_i64 (by omega) (by omega), wrap_i64 (by omega) (by omega), List.append_nil]
    have hl : (hdC (headB18 xs)).length = 66 := hdC_len lA lB
    refine st.storeAll (cs := (hdC (headB18 xs)).toArray) hvs (by simpa using hl) (one_list (hdC_ones _)) fun h29 st => ?_
    refine ⟨_, st.row0 hl, (is_ok (hdR_mk (s := headB18 xs) lA lB)).mono fun v h32 ⟨hv, e⟩ => ⟨e, _, hv, ?_⟩⟩
    have st := st.keep e
    by_cases ho : headOk (headB18 xs)
    · rw [decide_eq_true ho]
      refine br_no rfl ⟨_, st.row0 hl, ?_⟩
      exact ret18 (l := hdC (headB18 xs)) (K := fun cs3 h2 => Ext h h2 ∧ HRes xs (.tuple #[.agg cs3, .int .i64 0])) st.up1 rfl hl (hdC_ones _) fun h2 st => ⟨st.ext, .inl ⟨h72, ho, rfl⟩⟩
    · rw [decide_eq_false ho]
      refine br_yes rfl ?_
      exact ret18 (l := hdC zeroSg) (K := fun cs3 h2 => Ext h h2 ∧ HRes xs (.tuple #[.agg cs3, .int .i64 2])) st.up1 rfl rfl (hdC_ones _) fun h2 st => ⟨st.ext, .inr ⟨fun hh => ho hh.2, rfl⟩⟩
  have zA : (bcs ((xs.drop 8).take 32)).toArray.size = 32 := by simp [bcs_length]; omega
  have zB : (bcs (xs.drop 40)).toArray.size = 32 := by simp [bcs_length]; omega
  have pair : ∀ {g : Heap} {b27 : Nat} {vs : List Value} {a : Addr} {l c : Nat} {G : List HP}, vs.length = 66 → St h g (W r (xs.drop 40) false :: own 1 (some a) l c (bcs ((xs.drop 8).take 32)) :: pts b27 0 false vs :: pts b0 0 false (hdC zeroSg) :: G) →
      (∃ cs : Array Value, row g a 32 = some cs ∧ CallsH Tryz.prog n_wire_Reader_Plain #[ptr r, .int .i64 32] g fun v g' => ∃ p l c, v = .slice p l c ∧ 32 ≤ l ∧ deref p fun a' => ∃ cs' : Array Value, row g' a' 32 = some cs' ∧ cs.size = 32 ∧ cs'.size = 32 ∧ HLeaf (fun v h' => Ext h h' ∧ HRes xs v) b0 b27 g' (valB (xs.take 4) : Nat) (valB ((xs.drop 4).take 4) : Nat) cs cs') ∧
      (CallsH Tryz.prog n_wire_Reader_Plain #[ptr r, .int .i64 32] g fun v g' => ∃ p l c, v = .slice p l c ∧ ∃ cs : Array Value, row g' a 32 = some cs ∧ 32 ≤ l ∧ deref p fun a' => ∃ cs' : Array Value, row g' a' 32 = some cs' ∧ cs.size = 32 ∧ cs'.size = 32 ∧ HLeaf (fun v h' => Ext h h' ∧ HRes xs v) b0 b27 g' (valB (xs.take 4) : Nat) (valB ((xs.drop 4).take 4) : Nat) cs cs') := by
    intro g b27 vs a l c G hvs st
    refine ⟨⟨_, row_own st.up1 lA, (q2 st).mono fun v g' ⟨p, l', c', hv, a', he, hle, st⟩ => ⟨p, l', c', hv, hle, ?_⟩⟩, (q2 st).mono fun v g' ⟨p, l', c', hv, a', he, hle, st⟩ => ⟨p, l', c', hv, _, row_own st.up2 lA, hle, ?_⟩⟩
    · subst he
      rw [deref_some]
      exact ⟨_, row_own st.up1 lB, zA, zB, leaf hvs st.drop.drop.drop⟩
    · subst he
      rw [deref_some]
      exact ⟨_, row_own st.up1 lB, zA, zB, leaf hvs st.drop.drop.drop⟩
  refine ⟨(u1 st).mono fun v h8 ⟨hv, st⟩ => ⟨_, hv, ?_⟩, ?_⟩
  · refine ⟨(u2 st).mono fun v h11 ⟨hv, st⟩ => ⟨_, hv, ?_⟩, ?_⟩
    · refine ⟨(q1 st).mono fun v h14 ⟨p, l, c, hv, a, he, hle, st⟩ => ⟨p, l, c, hv, hle, ?_⟩, ?_⟩
      · subst he
        rw [deref_some]
        refine ⟨⟨_, row_own st.up1 lA, (q2 st).mono fun v h21 ⟨p', l', c', hv, a', he, hle, st⟩ => ⟨p', l', c', hv, hle, ?_⟩, ?_⟩, (q2 st).mono fun v h59 ⟨p', l', c', hv, a', he, hle, st⟩ => ⟨p', l', c', hv, _, row_own st.up2 lA, hle, ?_⟩, ?_⟩
        · subst he
          rw [deref_some]
          exact ⟨_, row_own st.up1 lB, zA, zB, st.newBlk fun b27 h28 _ st _ => leaf rfl (st.up4.up1)⟩
        · refine st.newBlk fun b39 h40 _ st _ => (q2 st.up1).mono fun v h42 ⟨p', l', c', hv, a', he, hle, st⟩ => ⟨p', l', c', hv, hle, ?_⟩
          subst he
          rw [deref_some]
          exact ⟨_, row_own st.up1 lB, zA, zB, leaf rfl (st.drop.drop.up1.drop)⟩
        · subst he
          rw [deref_some]
          exact ⟨_, row_own st.up1 lB, zA, zB, st.newBlk fun b27 h28 _ st _ => leaf rfl (st.up4.up1)⟩
        · refine st.newBlk fun b78 h79 _ st _ => pair rfl (st.dn2)
      · refine st.newBlk fun b116 h117 _ st _ => (q1 st.up1).mono fun v h119 ⟨p, l, c, hv, a, he, hle, st⟩ => ⟨p, l, c, hv, hle, ?_⟩
        subst he
        rw [deref_some]
        exact pair rfl st
    · refine st.newBlk fun b160 h161 _ st _ => (u2 st.up1).mono fun v h163 ⟨hv, st⟩ => ⟨_, hv, (q1 st).mono fun v h166 ⟨p, l, c, hv, a, he, hle, st⟩ => ⟨p, l, c, hv, hle, ?_⟩⟩
      subst he
      rw [deref_some]
      exact pair rfl st
  · refine st.newBlk fun b207 h208 _ st _ => (u1 st.up1).mono fun v h210 ⟨hv, st⟩ => ⟨_, hv, (u2 st).mono fun v h213 ⟨hv, st⟩ => ⟨_, hv, (q1 st).mono fun v h216 ⟨p, l, c, hv, a, he, hle, st⟩ => ⟨p, l, c, hv, hle, ?_⟩⟩⟩
    subst he
    rw [deref_some]
    exact pair rfl st
theorem headB_lens {xs : Bytes} (h : xs.length = 72) : (headB18 xs).tree.length = 32 ∧ (headB18 xs).log.length = 32 := ⟨by show ((xs.drop 8).take 32).length = 32; simp; omega, by show (xs.drop 40).length = 32; simp; omega⟩
def TookG (h0 : Heap) (F : List HP) (rb : Nat) (r : Sg × Bytes × Bool) (cs' : Array Value) (h' : Heap) : Prop := ∃ cs : List Value, Value.agg cs' = .agg cs.toArray ∧ cs.length = 67 ∧ ones cs ∧ St h0 h' (kn (fun h => SgR h cs r.1) :: W rb r.2.1 r.2.2 :: F)
theorem takes_head (hs : St h0 h (W rb bs f :: F)) : CallsH Tryz.prog n_head_Take #[ptr rb] h fun v h' => ∃ cs : List Value, v = .agg cs.toArray ∧ cs.length = 67 ∧ ones cs ∧ St h0 h' (kn (fun h => SgR h cs (decG bs f).1) :: W rb (decG bs f).2.1 (decG bs f).2.2 :: F) := by
  refine C_head_Take (some (Addr.mk rb 0 none)) ?_
  unfold F_head_Take
  refine hs.newBlk fun b0 h1 _ st _ => ?_
  have hD : decG bs f = if (takeR bs f 72).1.length = 72 ∧ headOk (headB18 (takeR bs f 72).1) then
    (if (strR (takeR bs f 72).2.1 (takeR bs f 72).2.2 8192).2.2 then (zeroSg, (strR (takeR bs f 72).2.1 (takeR bs f 72).2.2 8192).2)
     else ({ headB18 (takeR bs f 72).1 with sig := (strR (takeR bs f 72).2.1 (takeR bs f 72).2.2 8192).1 }, (strR (takeR bs f 72).2.1 (takeR bs f 72).2.2 8192).2))
  else (zeroSg, (takeR bs f 72).2.1, true) := rfl
  rw [hD]
  refine (rPlain_ok st.up1 72).mono fun v h3 ⟨p, l, c, hv, st⟩ => ⟨p, l, c, hv, ?_⟩
  have h72 : (takeR bs f 72).1.length ≤ 72 := by
    unfold takeR
    split
    · simp; omega
    · simp
  generalize takeR bs f 72 = t at *
  have st : St h0 h3 (W rb t.2.1 t.2.2 :: own 1 p l c (bcs t.1) :: pts b0 0 false (hdC zeroSg ++ [.slice none 0 0]) :: F) := st
  have hb := bs_own (bs := t.1) st.up1.at
  have hzl : (hdC zeroSg ++ [Value.slice none 0 0]).length = 67 := rfl
  have hzo : ones (hdC zeroSg ++ [Value.slice none 0 0]) := ones_app (hdC_ones _) (ones_cons rfl ones_nil)
  have hz0 : ∀ {h : Heap}, SgR h (hdC zeroSg ++ [Value.slice none 0 0]) zeroSg := sgR_mk rfl rfl ⟨by unfold I64; show _ ≤ (0 : Int) ∧ (0 : Int) ≤ _; omega, by unfold I64; show _ ≤ (0 : Int) ∧ (0 : Int) ≤ _; omega⟩ TxtR.none
  refine (hdecode_ok hb (by have := hb.1; omega)).mono fun v h8 ⟨e, hr⟩ => ⟨e, ?_⟩
  have st := st.keep e
  rcases hr with ⟨h1', ho, hv⟩ | ⟨hno, hv⟩
  · obtain ⟨hlA, hlB⟩ := headB_lens h1'
    have hl66 := hdC_len (s := headB18 t.1) hlA hlB
    refine ⟨_, by simpa using hl66, _, hv, ?_⟩
    refine st.newBlk fun b11 h12 _ st _ => ?_
    refine st.storeAll rfl (by simpa using hl66) (one_list (hdC_ones _)) fun h13 st => br_no rfl ?_
    have st : St h0 h13 (pts b11 0 false (hdC (headB18 t.1)) :: W rb t.2.1 t.2.2 :: own 1 p l c (bcs t.1) :: pts b0 0 false (hdC zeroSg ++ [.slice none 0 0]) :: F) := st
    rw [if_pos ⟨h1', ho⟩]
    refine (rString_ok st.up1 8192).mono fun v h22 ⟨p', l', c', hv, st⟩ => ⟨p', l', c', hv, (fails_ok st.at).mono fun v h27 ⟨hv, hh⟩ => ?_⟩
    subst hh
    refine ⟨Ext.refl _, _, hv, ?_⟩
    generalize strR t.2.1 t.2.2 8192 = r at *
    have st : St h0 h27 (W rb r.2.1 r.2.2 :: own 1 p' l' c' (bcs r.1) :: pts b11 0 false (hdC (headB18 t.1)) :: own 1 p l c (bcs t.1) :: pts b0 0 false (hdC zeroSg ++ [.slice none 0 0]) :: F) := st
    cases hf : r.2.2 with
    | true =>
      rw [if_pos rfl]
      refine br_yes rfl ?_
      refine ret18 (l := hdC zeroSg ++ [.slice none 0 0]) (K := TookG h0 F rb (zeroSg, r.2)) st.up4 hzl hzl hzo fun h29 st => ⟨_, rfl, hzl, hzo, ?_⟩
      have s1 := st.up3.drop.up2.drop.up1.drop
      exact s1.knAdd fun h => hz0
    | false =>
      rw [if_neg (by simp)]
      refine br_no rfl ⟨_, st.up2.row0 hl66, by simpa using hl66, ?_⟩
      have hl : (hdC (headB18 t.1) ++ [Value.slice p' l' c']).length = 67 := by simp [hl66]
      have hoo : ones (hdC (headB18 t.1) ++ [Value.slice p' l' c']) := ones_app (hdC_ones _) (ones_cons rfl ones_nil)
      refine ret18 (l := hdC (headB18 t.1) ++ [.slice p' l' c']) (K := TookG h0 F rb ({ headB18 t.1 with sig := r.1 }, r.2)) st.up4 hzl hl hoo fun h32 st => ⟨_, rfl, hl, hoo, ?_⟩
      have hlr := St.blen (bs := r.1) st.up1
      have s1 := st.up3.drop.up2.drop.up1.knOwn
      refine s1.knMono fun h ⟨k1, k2, k3⟩ => sgR_mk (s := { headB18 t.1 with sig := r.1 }) hlA hlB ⟨?_, ?_⟩ ⟨p', l', c', rfl, k1, hlr.1, k3⟩
      · have := ho.1; have := ho.2.1; unfold I64; show _ ≤ (headB18 t.1).epoch ∧ (headB18 t.1).epoch ≤ _; omega
      · have := ho.2.2; unfold I64; show _ ≤ (headB18 t.1).tick ∧ (headB18 t.1).tick ≤ _; omega
  · refine ⟨_, rfl, _, hv, ?_⟩
    refine st.newBlk fun b11 h12 _ st _ => ?_
    refine st.storeAll rfl rfl (one_list (hdC_ones _)) fun h13 st => br_yes rfl ?_
    have st : St h0 h13 (pts b11 0 false (hdC zeroSg) :: W rb t.2.1 t.2.2 :: own 1 p l c (bcs t.1) :: pts b0 0 false (hdC zeroSg ++ [.slice none 0 0]) :: F) := st
    rw [if_neg hno]
    refine (rPlain_ok st.up1 (-1)).mono fun v h15 ⟨p', l', c', hv, st⟩ => ⟨p', l', c', hv, ?_⟩
    have e : takeR t.2.1 t.2.2 (-1) = ([], t.2.1, true) := by unfold takeR; rw [if_neg (by omega)]
    rw [e] at st
    refine ret18 (l := hdC zeroSg ++ [.slice none 0 0]) (K := TookG h0 F rb (zeroSg, t.2.1, true)) st.up4 hzl hzl hzo fun h29 st => ⟨_, rfl, hzl, hzo, ?_⟩
    have s1 := st.up3.drop.up2.drop.up1.drop
    exact s1.knAdd fun h => hz0
end
end Go.Proofs.YthlmiijlhiiccaaGreat
