/- Layer 18: MessageSame. -/
import Derived.Test.Ythlmiijlhiiccaasd
import Derived.Test.YthlmiijlhiiccaaFk
set_option linter.unusedVariables false
set_option linter.unusedSimpArgs false
set_option maxRecDepth 100000
namespace Go.Proofs.Ythlmiijlhiiccaa
open Go Go.Vc Go.Proofs Go.Vc.Keys
theorem keep_kind {m : Ms} {x} : ∀ h c j, j ≠ 0 → Part h c m j → Part h c { m with kind := x } j := by
  intro h c j hj q
  rcases j with _ | _ | _ | _ | _ | _ | _ | _ | _ | _ | _ | _ | _ | _ | _ | _ | _ | _ | j
  all_goals first | exact q | exact absurd rfl hj
section
variable {h hh : Heap} {G : List HP} {cs : List Value} {m : Ms} {b23 b0 : Nat}
theorem otherT {k o : Nat} {tid : TypeId} {x : Bytes} {c : Value} {m' : Ms} (hk : k < 18) (h1 : siz18 k = 1) (hoff : o = off18 k) (hs : St h hh [pts b23 0 false cs, pts b0 0 false cs]) (hx : MsR h cs m) (hT : TxtR h c x) (hl : x.length ≤ 100) (hc : cs[o]? = some c)
    (hP : ∀ h' v, TxtR h' v (x ++ [1]) → Part h' [v] m' k) (keep : ∀ h c j, j ≠ k → Part h c m j → Part h c m' j) (hne : m ≠ m') (sm : Small m') :
    newBlk hh tid #[] fun b40 h41 => ∃ p42 l43 c44, cell h41 (Addr.mk b0 o none) = some (.slice p42 l43 c44) ∧ appendP tid 1 1 #[.int .u8 0] (some (Addr.mk b40 0 none)) 0 0 p42 l43 h41 fun p45 l46 c47 h48 => newBlk h48 tid #[.int .u8 1] fun b49 h50 =>
      appendP tid 1 1 #[.int .u8 0] p45 l46 c47 (some (Addr.mk b49 0 none)) 1 h50 fun p51 l52 c53 h54 => Vc.storeP none h54 (Addr.mk b23 o none) (.slice p51 l52 c53) fun h55 => Other h h55 b23 b0 cs m := by
  obtain ⟨p, l, cap, rfl, hlc, hb⟩ := hT
  have hbl := hb.1
  refine hs.newBlk fun b40 h41 _ st _ => ?_
  have st : St h h41 [own 1 (some (Addr.mk b40 0 none)) 0 0 [], pts b23 0 false cs, pts b0 0 false cs] := st.impl fun m q => ⟨rfl, Nat.le_refl _, Nat.zero_le _, .inr ⟨_, 0, [], rfl, rfl, q⟩⟩
  refine ⟨_, _, _, st.up2.cell0 hc, ?_⟩
  refine St.append (xs := bcs x) st (hb.ext st.ext).2 (one_bcs _) rfl (by omega) (by unfold maxLen; omega) fun p3 c3 h46 st _ => ?_
  refine st.newBlk fun b49 h50 _ st _ => ?_
  have st : St h h50 [pts b49 0 false [.int .u8 1], own 1 p3 (0 + l) c3 ([] ++ bcs x), pts b23 0 false cs, pts b0 0 false cs] := st
  refine St.append (xs := [.int .u8 1]) st.up1 ⟨rfl, st.row0 rfl⟩ (ones_cons rfl ones_nil) rfl (by omega) (by unfold maxLen; omega) fun p4 c4 h54 st _ => ?_
  refine other1 hk h1 hoff (st.up3.up3) hx rfl (fun h' s => hP h' _ ⟨_, _, _, rfl, ?_, ?_⟩) keep hne sm fun h' q => q
  · exact s.up2.len.2.1
  · have e : (x ++ [1]).map bv = [] ++ bcs x ++ [.int .u8 1] := by rw [List.map_append]; rfl
    exact bs_own (bs := x ++ [1]) (c := c4) (by rw [e]; exact s.up2.at)
theorem messageSame_ok (hx : MsR h cs m) (w : Int) (hw0 : 0 ≤ w) (hw1 : w < 256) : CallsH Try.prog n_law18_MessageSame #[.agg cs.toArray, .int .u8 w] h fun v h' => v = .bool true ∧ Ext h h' := by
  refine C_law18_MessageSame cs.toArray w ?_
  unfold F_law18_MessageSame
  have hlen := hx.len
  refine (St.start h).newBlk fun b0 h1 _ st _ => ?_
  have st : St h h1 [pts b0 0 false cs] := st
  have aw : ∀ {h' : Heap}, Ext h h' → CallsH Try.prog n_law18_awake #[] h' fun v h14 => Ext h' h14 ∧ ∃ t15, v = .bool t15 ∧ (Value.bool t15 = .bool true ∧ Ext h h14) := fun e0 => awake18_ok.mono fun v h14 ⟨hv, e⟩ => ⟨e, _, hv, rfl, e0.trans e⟩
  refine ⟨fun _ h' => St h h' [pts b0 0 false cs] ∧ Few18 m, awake18_ok.mono fun v h4 ⟨hv, e⟩ => ⟨e, _, hv, br_no rfl ?_⟩, ?_⟩
  · have st := st.keep e
    refine ⟨_, st.row0 hlen, (few18_ok (keeps_Ms _ _ _ _ st.ext hx)).mono fun v h11 ⟨g, hv, e, hg⟩ => ⟨e, g, hv, ?_⟩⟩
    have st := st.keep e
    cases g with
    | false => exact br_yes rfl (aw st.ext)
    | true => exact br_no rfl ⟨st, hg rfl⟩
  clear st
  rintro _ h17 ⟨st, fw⟩
  have sm := fw.small
  refine ⟨fun b h' => St h h' [pts b 0 false cs, pts b0 0 false cs], ⟨_, st.row0 hlen, st.newBlk fun b20 h21 _ st _ => st.storeAll rfl (by simpa using hlen) (one_list hx.ones) fun h22 st => st⟩, ?_⟩
  clear st
  rintro b23 h24 st
  refine ⟨fun _ h' => Other h h' b23 b0 cs m, ⟨by omega, ?_⟩, ?_⟩
  · simp only [add_mk, Nat.zero_add]
    have t0 : 0 ≤ Int.tmod w 12 := Int.tmod_nonneg _ hw0
    have t1 : Int.tmod w 12 < 12 := Int.tmod_lt_of_pos _ (by omega)
    obtain ⟨t, ht, htl⟩ : ∃ t : Nat, Int.tmod w 32 = t ∧ t < 32 := by
      have h1 : 0 ≤ Int.tmod w 32 := Int.tmod_nonneg _ hw0
      have h2 : Int.tmod w 32 < 32 := Int.tmod_lt_of_pos _ (by omega)
      exact ⟨(Int.tmod w 32).toNat, by omega, by omega⟩
    rw [ht]
    simp only [Int.toNat_natCast, Nat.mul_one]
    rw [br_beq]
    refine ⟨fun _ => ⟨_, st.up1.cell0 (i := 0) hx.kind, other1 (k := 0) (m' := { m with kind := xorI .i64 m.kind 1 }) (by omega) rfl rfl st hx rfl (fun h' _ => ⟨rfl, xor_range _⟩) keep_kind (fun e => xor_ne m.kind (congrArg Ms.kind e).symm) ⟨sm.sig, sm.growth, sm.place, sm.steps, sm.chain, sm.rows, sm.news, sm.trees⟩ fun h' q => q⟩, fun e0 => ?_⟩
    rw [br_beq]
    refine ⟨fun _ => ⟨_, st.up1.cell0 (i := 1) hx.src, other1 (k := 1) (m' := { m with src := xorI .i64 m.src 1 }) (by omega) rfl rfl st hx rfl (fun h' _ => ⟨rfl, xor_range _⟩) keep_src (fun e => xor_ne m.src (congrArg Ms.src e).symm) ⟨sm.sig, sm.growth, sm.place, sm.steps, sm.chain, sm.rows, sm.news, sm.trees⟩ fun h' q => q⟩, fun e1 => ?_⟩
    rw [br_beq]
    refine ⟨fun _ => ⟨_, st.up1.cell0 (i := 2) hx.dst, other1 (k := 2) (m' := { m with dst := xorI .i64 m.dst 1 }) (by omega) rfl rfl st hx rfl (fun h' _ => ⟨rfl, xor_range _⟩) keep_dst (fun e => xor_ne m.dst (congrArg Ms.dst e).symm) ⟨sm.sig, sm.growth, sm.place, sm.steps, sm.chain, sm.rows, sm.news, sm.trees⟩ fun h' q => q⟩, fun e2 => ?_⟩
    rw [br_beq]
    refine ⟨fun _ => ⟨_, st.up1.cell0 (i := 3) hx.seq, other1 (k := 3) (m' := { m with seq := xorI .i64 m.seq 1 }) (by omega) rfl rfl st hx rfl (fun h' _ => ⟨rfl, xor_range _⟩) keep_seq (fun e => xor_ne m.seq (congrArg Ms.seq e).symm) ⟨sm.sig, sm.growth, sm.place, sm.steps, sm.chain, sm.rows, sm.news, sm.trees⟩ fun h' q => q⟩, fun e3 => ?_⟩
    rw [br_beq]
    refine ⟨fun _ => ⟨_, st.up1.cell0 (i := 4) hx.epoch, other1 (k := 4) (m' := { m with epoch := xorI .i64 m.epoch 1 }) (by omega) rfl rfl st hx rfl (fun h' _ => ⟨rfl, xor_range _⟩) keep_epoch (fun e => xor_ne m.epoch (congrArg Ms.epoch e).symm) ⟨sm.sig, sm.growth, sm.place, sm.steps, sm.chain, sm.rows, sm.news, sm.trees⟩ fun h' q => q⟩, fun e4 => ?_⟩
    rw [br_beq]
    refine ⟨fun _ => ⟨_, st.up1.cell0 (i := 5) hx.known, other1 (k := 5) (m' := { m with known := xorI .i64 m.known 1 }) (by omega) rfl rfl st hx rfl (fun h' _ => ⟨rfl, xor_range _⟩) keep_known (fun e => xor_ne m.known (congrArg Ms.known e).symm) ⟨sm.sig, sm.growth, sm.place, sm.steps, sm.chain, sm.rows, sm.news, sm.trees⟩ fun h' q => q⟩, fun e5 => ?_⟩
    rw [br_beq]
    refine ⟨fun _ => ⟨_, st.up1.cell0 (i := 6) hx.err, other1 (k := 6) (m' := { m with err := xorI .i64 m.err 1 }) (by omega) rfl rfl st hx rfl (fun h' _ => ⟨rfl, xor_range _⟩) keep_err (fun e => xor_ne m.err (congrArg Ms.err e).symm) ⟨sm.sig, sm.growth, sm.place, sm.steps, sm.chain, sm.rows, sm.news, sm.trees⟩ fun h' q => q⟩, fun e6 => ?_⟩
    rw [br_beq]
    refine ⟨fun _ => ?_, fun e7 => ?_⟩
    · obtain ⟨c, hc, hT⟩ := hx.label
      exact otherT (k := 7) (m' := { m with label := m.label ++ [1] }) (by omega) rfl rfl st hx hT fw.label hc (fun h' v q => ⟨v, rfl, q⟩) keep_label (fun e => by have := congrArg (fun z => z.label.length) e; simp at this) ⟨sm.sig, sm.growth, sm.place, sm.steps, sm.chain, sm.rows, sm.news, sm.trees⟩
    rw [br_beq]
    refine ⟨fun _ => ?_, fun e8 => ?_⟩
    · obtain ⟨c, hc, hT⟩ := hx.value
      exact otherT (k := 8) (m' := { m with value := m.value ++ [1] }) (by omega) rfl rfl st hx hT fw.value hc (fun h' v q => ⟨v, rfl, q⟩) keep_value (fun e => by have := congrArg (fun z => z.value.length) e; simp at this) ⟨sm.sig, sm.growth, sm.place, sm.steps, sm.chain, sm.rows, sm.news, sm.trees⟩
    rw [br_beq]
    refine ⟨fun _ => ?_, fun e9 => ?_⟩
    · have htx : t < m.tree.length := by rw [hx.treeLen]; exact htl
      have hc : cs[80 + t]? = some (.int .u8 (m.tree[t].toNat : Int)) := sub_at (n := 32) (by rw [hx.tree]; exact bcs_get htx)
      refine ⟨by omega, by omega, by omega, _, st.cell0 hc, by omega, by omega, ?_⟩
      rw [flip1_val]
      refine st.store0 (by omega) rfl fun h' s => ⟨_, { m with tree := m.tree.set t (flip1 m.tree[t]) }, [], s, ?_, fun e => set_ne htx (congrArg Ms.tree e).symm, ⟨sm.sig, sm.growth, sm.place, sm.steps, sm.chain, sm.rows, sm.news, sm.trees⟩⟩
      rw [set_lay hx.treeLen htl (by omega) hx.tree]
      have hl' : (m.tree.set t (flip1 m.tree[t])).length = 32 := by rw [List.length_set, hx.treeLen]
      exact msR_lay (k := 12) (by omega) (keeps_Ms _ _ _ _ s.ext hx) (by rw [bcs_length, hl']; rfl) (one_bcs _) ⟨rfl, hl'⟩ keep_tree
    rw [br_beq]
    refine ⟨fun _ => ?_, fun e10 => ?_⟩
    · obtain ⟨c, hc, p, l, cap, rows, rfl, hlc, hrl, hxl, hrd, hR⟩ := hx.trees
      have hl30 := fw.trees
      refine st.newBlk fun b74 h75 _ st _ => ?_
      have st : St h h75 [own 32 (some (Addr.mk b74 0 none)) 0 0 [], pts b23 0 false cs, pts b0 0 false cs] := st.impl fun m q => ⟨rfl, Nat.le_refl _, Nat.zero_le _, .inr ⟨_, 0, [], rfl, rfl, q⟩⟩
      refine ⟨_, _, _, st.up2.cell0 hc, ?_⟩
      have hones : ∀ v ∈ rows.flatten, v.oneCell' = true := fun v hv => by
        obtain ⟨r, h1, h2⟩ := List.mem_flatten.1 hv
        obtain ⟨i, hi, rfl⟩ := List.mem_iff_getElem.1 h1
        exact (hR i hi (by omega)).2.1 v h2
      refine St.append (xs := rows.flatten) st (hrd.ext st.ext) hones rfl (by omega) (by unfold maxLen; omega) fun p3 c3 h82 st _ => ⟨by first | trivial | omega, ?_⟩
      refine st.newBlk fun b83 h84 _ st _ => ?_
      have st : St h h84 [pts b83 0 false (bcs zeros), own 32 p3 (0 + l) c3 ([] ++ rows.flatten), pts b23 0 false cs, pts b0 0 false cs] := st
      refine St.append (xs := bcs zeros) st.up1 ⟨rfl, st.row0 rfl⟩ (one_bcs _) rfl (by omega) (by unfold maxLen; omega) fun p4 c4 h88 st _ => ?_
      refine other1 (k := 17) (m' := { m with trees := m.trees ++ [zeros] }) (by omega) rfl rfl (st.up3.up3) hx rfl (fun h' s => ?_) keep_trees (fun e => by have := congrArg (fun z => z.trees.length) e; simp at this) ⟨sm.sig, sm.growth, sm.place, sm.steps, sm.chain, sm.rows, sm.news, by simp; omega⟩ fun h' q => q
      have s2 := s.up2
      have hle := s2.len.2.1
      have hrd2 := rd_own s2.at
      rw [List.nil_append, rows_flat] at hrd2
      refine ⟨_, rfl, p4, _, c4, rows ++ [bcs zeros], rfl, hle, by simp; omega, by simp; omega, hrd2, ?_⟩
      exact Rows.snoc (R := HashR) (by omega) (fun i a b => hR i a b) rfl (one_bcs _) ⟨rfl, rfl⟩
    rw [br_beq]
    refine ⟨fun _ => ?_, fun e11 => by omega⟩
    have hpl := hx.proof.len
    obtain ⟨a1, a2, a3, a4, a5⟩ := hx.proof.lens
    have htx : t < m.proof.value.length := by rw [a2]; exact htl
    have hv146 : (cs.drop 146).take 32 = bcs m.proof.value := by
      have := hx.proof.value
      rw [List.drop_take, List.take_take, List.drop_drop] at this
      exact this
    have hc : cs[146 + t]? = some (.int .u8 (m.proof.value[t].toNat : Int)) := sub_at (n := 32) (by rw [hv146]; exact bcs_get htx)
    refine ⟨by omega, by omega, by omega, _, st.cell0 hc, by omega, by omega, ?_⟩
    rw [flip1_val]
    refine st.store0 (by omega) rfl fun h' s => ⟨_, { m with proof := { m.proof with value := m.proof.value.set t (flip1 m.proof.value[t]) } }, [], s, ?_, fun e => set_ne htx (congrArg (fun z => z.proof.value) e).symm, ⟨sm.sig, sm.growth, sm.place, sm.steps, sm.chain, sm.rows, sm.news, sm.trees⟩⟩
    have hl' : (m.proof.value.set t (flip1 m.proof.value[t])).length = 32 := by rw [List.length_set, a2]
    have hbl : (bcs (m.proof.value.set t (flip1 m.proof.value[t]))).length = 32 := by rw [bcs_length, hl']
    have hx' := keeps_Ms _ _ _ _ s.ext hx
    have e : lay cs 146 (bcs (m.proof.value.set t (flip1 m.proof.value[t]))) = lay cs 112 (lay ((cs.drop 112).take 163) 34 (bcs (m.proof.value.set t (flip1 m.proof.value[t])))) := (lay_lay (i := 112) (j := 34) (by omega) (by omega)).symm
    rw [set_lay a2 htl (by omega) hv146, e]
    exact msR_lay (k := 13) (by omega) hx' (by rw [lay_length (by omega), hpl]; rfl) (ones_lay (fun v hv => hx.ones v (List.mem_of_mem_drop (List.mem_of_mem_take hv))) (one_bcs _)) (prR_value hx'.proof hl') keep_proof
  clear st
  rintro _ h93 ⟨cs', m', G, st, hx', hne, sm'⟩
  have hl' := hx'.len
  refine ⟨_, st.up1.row0 hlen, _, st.up1.row0 hlen, (same18_ok (keeps_Ms _ _ _ _ st.ext hx) (keeps_Ms _ _ _ _ st.ext hx) sm).mono fun v h97 hq => ?_⟩
  obtain ⟨t, hv, hr, e1⟩ := hq
  obtain rfl : t = true := hr.2 rfl
  refine ⟨e1, _, hv, br_yes rfl ?_⟩
  have st := st.keep e1
  refine ⟨_, st.up1.row0 hlen, _, st.row0 hl', (same18_ok (keeps_Ms _ _ _ _ st.ext hx) (keeps_Ms _ _ _ _ e1 hx') sm).mono fun v h102 hq => ?_⟩
  obtain ⟨t, hv, hr, e2⟩ := hq
  obtain rfl : t = false := by cases t with | false => rfl | true => exact absurd (hr.1 rfl) hne
  refine ⟨e2, _, hv, br_yes rfl ?_⟩
  have st := st.keep e2
  refine ⟨_, st.row0 hl', _, st.up1.row0 hlen, (same18_ok (keeps_Ms _ _ _ _ (e1.trans e2) hx') (keeps_Ms _ _ _ _ st.ext hx) sm').mono fun v h107 hq => ?_⟩
  obtain ⟨t, hv, hr, e3⟩ := hq
  obtain rfl : t = false := by cases t with | false => rfl | true => exact absurd (hr.1 rfl).symm hne
  exact ⟨e3, _, hv, rfl, st.ext.trans e3⟩
end
end Go.Proofs.Ythlmiijlhiiccaa
