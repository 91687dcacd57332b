/- Layer 18: messages that are the same. -/
import Derived.Test.YthlmiijlhiiccaaGreatsb
set_option linter.unusedVariables false
set_option linter.unusedSimpArgs false
set_option maxRecDepth 100000
namespace Go.Proofs.YthlmiijlhiiccaaGreat
open Go Go.Vc Go.Proofs Go.Vc.Keys
theorem sub_at {cs : List Value} {i n j : Nat} {v : Value} (e : ((cs.drop i).take n)[j]? = some v) : cs[i + j]? = some v := by
  rw [List.getElem?_take] at e
  split at e
  · rw [List.getElem?_drop] at e; exact e
  · cases e
section
variable {h : Heap}
/-- A call that tells whether it is so, in a chain of such. -/
theorem eqs_step {f : FuncId} {args : Array Value} {h0 h : Heap} {Q P : Prop} {K : Heap → Prop} (hh : CallsH Tryz.prog f args h (Eqs h Q)) (e0 : Ext h0 h) (hno : ¬ Q → ¬ P) (hk : ∀ h', Ext h h' → Q → K h') :
    CallsH Tryz.prog f args h fun v h' => Ext h h' ∧ ∃ t, v = .bool t ∧ br t (K h') (Eqs h0 P (.bool false) h') := by
  refine hh.mono fun v h' hq => ?_
  obtain ⟨t, hv, hr, e⟩ := hq
  refine ⟨e, t, hv, ?_⟩
  cases t with
  | false => exact br_no rfl (eqs_no (e0.trans e) (hno fun hq => by have := hr.2 hq; cases this))
  | true => exact br_yes rfl (hk h' e (hr.1 rfl))
theorem eqs_last {f : FuncId} {args : Array Value} {h0 h : Heap} {Q P : Prop} (hh : CallsH Tryz.prog f args h (Eqs h Q)) (e0 : Ext h0 h) (hp : Q ↔ P) :
    CallsH Tryz.prog f args h fun v h' => Ext h h' ∧ ∃ t, v = .bool t ∧ Eqs h0 P (.bool t) h' := by
  refine hh.mono fun v h' hq => ?_
  obtain ⟨t, hv, hr, e⟩ := hq
  exact ⟨e, t, hv, t, rfl, hr.trans hp, e0.trans e⟩
theorem br_t {t : Bool} {Q P : Prop} {h0 h : Heap} {X : Prop} (ht : t = true ↔ Q) (e0 : Ext h0 h) (hno : ¬ Q → ¬ P) (hk : Q → X) : br t X (Eqs h0 P (.bool false) h) := by
  cases t with
  | false => exact br_no rfl (eqs_no e0 (hno fun hq => by have := ht.2 hq; cases this))
  | true => exact br_yes rfl (hk (ht.1 rfl))
theorem br_i {n m : Int} {P : Prop} {h0 h : Heap} {X : Prop} (e0 : Ext h0 h) (hno : n ≠ m → ¬ P) (hk : n = m → X) : br (n == m) X (Eqs h0 P (.bool false) h) := by
  rw [br_beq]
  exact ⟨hk, fun hne => eqs_no e0 (hno hne)⟩
theorem sameVersion_ok {cs ds : List Value} {x y : Vr} (hx : VrR h cs x) (hy : VrR h ds y) : CallsH Tryz.prog n_message_sameVersion #[.agg cs.toArray, .agg ds.toArray] h (Eqs h (x = y)) := by
  refine C_message_sameVersion _ _ ?_
  unfold F_message_sameVersion
  refine (St.start h).newBlk fun b0 h1 _ st _ => st.newBlk fun b2' h3 _ st _ => ?_
  have st : St h h3 [pts b2' 0 false ds, pts b0 0 false cs] := st
  have lx := hx.len
  have ly := hy.len
  simp only [add_mk, Nat.zero_add]
  refine ⟨_, st.up1.cell0 (i := 0) hx.num, _, st.cell0 (i := 0) hy.num, br_i st.ext (fun hne e => hne (by rw [e])) fun q1 => ?_⟩
  refine ⟨_, st.up1.cell0 (i := 1) hx.ep, _, st.cell0 (i := 1) hy.ep, br_i st.ext (fun hne e => hne (by rw [e])) fun q2 => ?_⟩
  refine ⟨_, st.up1.rowAt (i := 2) (n := 32) (by omega), _, st.rowAt (i := 2) (n := 32) (by omega), ?_⟩
  rw [hx.salt, hy.salt]
  refine eqA_hash hx.lens.1 hy.lens.1 fun t ht => br_t ht st.ext (fun hne e => hne (by rw [e])) fun q3 => ?_
  refine ⟨_, st.up1.rowAt (i := 34) (n := 32) (by omega), _, st.rowAt (i := 34) (n := 32) (by omega), ?_⟩
  rw [hx.before, hy.before]
  refine eqA_hash hx.lens.2 hy.lens.2 fun t ht => br_t ht st.ext (fun hne e => hne (by rw [e])) fun q4 => ?_
  obtain ⟨c, hc, tc⟩ := hx.value
  obtain ⟨d, hd, td⟩ := hy.value
  have g := bytes_equal_ok (tc.ext st.ext) (td.ext st.ext)
  obtain ⟨p, l, c', rfl, _⟩ := id tc
  obtain ⟨q, m, d', rfl, _⟩ := id td
  refine ⟨_, _, _, st.up1.cell0 (i := 66) hc, _, _, _, st.cell0 (i := 66) hd, eqs_last g st.ext ⟨fun q5 => ?_, fun e => by rw [e]⟩⟩
  cases x; cases y
  simp only at q1 q2 q3 q4 q5
  rw [q1, q2, q3, q4, q5]
theorem sameNews_ok {cs ds : List Value} {x y : Nw} (hx : NwR h cs x) (hy : NwR h ds y) : CallsH Tryz.prog n_message_sameNews #[.agg cs.toArray, .agg ds.toArray] h (Eqs h (x = y)) := by
  obtain ⟨c, cs, rfl, tc, vc⟩ := hx
  obtain ⟨d, ds, rfl, td, vd⟩ := hy
  refine C_message_sameNews _ _ ?_
  unfold F_message_sameNews
  refine (St.start h).newBlk fun b0 h1 _ st _ => st.newBlk fun b2' h3 _ st _ => ?_
  have st : St h h3 [pts b2' 0 false (d :: ds), pts b0 0 false (c :: cs)] := st
  have lx := vc.len
  have ly := vd.len
  simp only [add_mk, Nat.zero_add]
  have g := bytes_equal_ok (tc.ext st.ext) (td.ext st.ext)
  obtain ⟨p, l, c', rfl, _⟩ := id tc
  obtain ⟨q, m, d', rfl, _⟩ := id td
  refine ⟨_, _, _, st.up1.cell0 (i := 0) rfl, _, _, _, st.cell0 (i := 0) rfl, eqs_step g st.ext (fun hne e => hne (by rw [e])) fun h11 e q1 => ?_⟩
  have st := st.keep e
  refine ⟨_, st.up1.rowAt (i := 1) (n := 67) (by simp; omega), _, st.rowAt (i := 1) (n := 67) (by simp; omega), ?_⟩
  have t1 : ((Value.slice p l c' :: cs).drop 1).take 67 = cs := by rw [List.drop_succ_cons, List.drop_zero, List.take_of_length_le (by omega)]
  have t2 : ((Value.slice q m d' :: ds).drop 1).take 67 = ds := by rw [List.drop_succ_cons, List.drop_zero, List.take_of_length_le (by omega)]
  rw [t1, t2]
  refine eqs_last (sameVersion_ok (keeps_Vr _ _ _ _ st.ext vc) (keeps_Vr _ _ _ _ st.ext vd)) st.ext ⟨fun q2 => ?_, fun e => by rw [e]⟩
  cases x; cases y
  simp only at q1 q2
  rw [q1, q2]
theorem sameProof_ok {cs ds : List Value} {x y : Prf} (hx : PrR h cs x) (hy : PrR h ds y) (hl : x.steps.length ≤ 1000000000) : CallsH Tryz.prog n_message_sameProof #[.agg cs.toArray, .agg ds.toArray] h (Eqs h (x = y)) := by
  refine C_message_sameProof _ _ ?_
  unfold F_message_sameProof
  refine (St.start h).newBlk fun b0 h1 _ st _ => st.newBlk fun b2' h3 _ st _ => ?_
  have st : St h h3 [pts b2' 0 false ds, pts b0 0 false cs] := st
  have lx := hx.len
  have ly := hy.len
  obtain ⟨x1, x2, x3, x4, x5⟩ := hx.lens
  obtain ⟨y1, y2, y3, y4, y5⟩ := hy.lens
  simp only [add_mk, Nat.zero_add]
  obtain ⟨c, hc, tc⟩ := hx.steps
  obtain ⟨d, hd, td⟩ := hy.steps
  have g := sameSteps_ok (tc.ext keeps_Stp st.ext) (td.ext keeps_Stp st.ext) hl
  obtain ⟨p, l, c', _, rfl, _⟩ := id tc
  obtain ⟨q, m, d', _, rfl, _⟩ := id td
  refine ⟨_, _, _, st.up1.cell0 (i := 0) hc, _, _, _, st.cell0 (i := 0) hd, eqs_step g st.ext (fun hne e => hne (by rw [e])) fun h11 e q1 => ?_⟩
  have st := st.keep e
  refine ⟨_, st.up1.cell0 (i := 1) hx.en, _, st.cell0 (i := 1) hy.en, br_i st.ext (fun hne e => hne (by rw [e])) fun q2 => ?_⟩
  refine ⟨_, st.up1.rowAt (i := 2) (n := 32) (by omega), _, st.rowAt (i := 2) (n := 32) (by omega), ?_⟩
  rw [hx.key, hy.key]
  refine eqA_hash x1 y1 fun t ht => br_t ht st.ext (fun hne e => hne (by rw [e])) fun q3 => ?_
  refine ⟨_, st.up1.rowAt (i := 34) (n := 32) (by omega), _, st.rowAt (i := 34) (n := 32) (by omega), ?_⟩
  rw [hx.value, hy.value]
  refine eqA_hash x2 y2 fun t ht => br_t ht st.ext (fun hne e => hne (by rw [e])) fun q4 => ?_
  refine ⟨_, st.up1.rowAt (i := 66) (n := 33) (by omega), _, st.rowAt (i := 66) (n := 33) (by omega), ?_⟩
  rw [hx.p, hy.p]
  refine eqA_prefix x3 y3 fun t ht => br_t ht st.ext (fun hne e => hne (by rw [e])) fun q5 => ?_
  refine ⟨_, st.up1.rowAt (i := 99) (n := 32) (by omega), _, st.rowAt (i := 99) (n := 32) (by omega), ?_⟩
  rw [hx.left, hy.left]
  refine eqA_hash x4 y4 fun t ht => br_t ht st.ext (fun hne e => hne (by rw [e])) fun q6 => ?_
  refine ⟨_, st.up1.rowAt (i := 131) (n := 32) (by omega), _, st.rowAt (i := 131) (n := 32) (by omega), ?_⟩
  rw [hx.right, hy.right]
  refine eqA_hash x5 y5 fun t ht => ⟨t, rfl, ht.trans ⟨fun q7 => ?_, fun e => by rw [e]⟩, st.ext⟩
  cases x; cases y
  simp only at q1 q2 q3 q4 q5 q6 q7
  rw [q1, q2, q3, q4, q5, q6, q7]
theorem sameChain_ok {c d : Value} {xs ys : List Vr} (hx : LsR 67 VrR h c xs) (hy : LsR 67 VrR h d ys) (hl : xs.length ≤ 1000000000) : CallsH Tryz.prog n_slices_EqualFunc_chain_Version_chain_Version_chain_Version_chain_Version #[c, d, .func (.func n_message_sameVersion) #[] #[]] h (Eqs h (xs = ys)) := by
  obtain ⟨p, l, c', e, _, ex, _⟩ := hx.get (by omega)
  subst e
  obtain ⟨q, m, d', e, _, ey, _⟩ := hy.get (by omega)
  subst e
  refine C_slices_EqualFunc_chain_Version_chain_Version_chain_Version_chain_Version p l c' q m d' ?_
  unfold F_slices_EqualFunc_chain_Version_chain_Version_chain_Version_chain_Version
  exact eqf_body (sz := 67) (R := VrR) (by omega) rfl keeps_Vr (fun a b => sameVersion_ok a b) hx hy (by omega)
theorem sameNewsL_ok {c d : Value} {xs ys : List Nw} (hx : LsR 68 NwR h c xs) (hy : LsR 68 NwR h d ys) (hl : xs.length ≤ 1000000000) : CallsH Tryz.prog n_slices_EqualFunc_message_News_message_News_message_News_message_News #[c, d, .func (.func n_message_sameNews) #[] #[]] h (Eqs h (xs = ys)) := by
  obtain ⟨p, l, c', e, _, ex, _⟩ := hx.get (by omega)
  subst e
  obtain ⟨q, m, d', e, _, ey, _⟩ := hy.get (by omega)
  subst e
  refine C_slices_EqualFunc_message_News_message_News_message_News_message_News p l c' q m d' ?_
  unfold F_slices_EqualFunc_message_News_message_News_message_News_message_News
  exact eqf_body (sz := 68) (R := NwR) (by omega) rfl keeps_Nw (fun a b => sameNews_ok a b) hx hy (by omega)
theorem same18_ok {cs ds : List Value} {x y : Ms} (hx : MsR h cs x) (hy : MsR h ds y) (sm : Small x) : CallsH Tryz.prog n_message_Same #[.agg cs.toArray, .agg ds.toArray] h (Eqs h (x = y)) := by
  refine C_message_Same _ _ ?_
  unfold F_message_Same
  refine (St.start h).newBlk fun b0 h1 _ st _ => st.newBlk fun b2' h3 _ st _ => ?_
  have st : St h h3 [pts b2' 0 false ds, pts b0 0 false cs] := st
  have lx := hx.len
  have ly := hy.len
  have s1 := sm.growth
  have s2 := sm.place
  have s3 := sm.steps
  have s4 := sm.chain
  have s5 := sm.rows
  have s6 := sm.news
  have s7 := sm.trees
  simp only [add_mk, Nat.zero_add]
  refine ⟨_, st.up1.cell0 (i := 0) hx.kind, _, st.cell0 (i := 0) hy.kind, br_i st.ext (fun hne e => hne (by rw [e])) fun q1 => ?_⟩
  refine ⟨_, st.up1.cell0 (i := 1) hx.src, _, st.cell0 (i := 1) hy.src, br_i st.ext (fun hne e => hne (by rw [e])) fun q2 => ?_⟩
  refine ⟨_, st.up1.cell0 (i := 2) hx.dst, _, st.cell0 (i := 2) hy.dst, br_i st.ext (fun hne e => hne (by rw [e])) fun q3 => ?_⟩
  refine ⟨_, st.up1.cell0 (i := 3) hx.seq, _, st.cell0 (i := 3) hy.seq, br_i st.ext (fun hne e => hne (by rw [e])) fun q4 => ?_⟩
  refine ⟨_, st.up1.cell0 (i := 4) hx.epoch, _, st.cell0 (i := 4) hy.epoch, br_i st.ext (fun hne e => hne (by rw [e])) fun q5 => ?_⟩
  refine ⟨_, st.up1.cell0 (i := 5) hx.known, _, st.cell0 (i := 5) hy.known, br_i st.ext (fun hne e => hne (by rw [e])) fun q6 => ?_⟩
  refine ⟨_, st.up1.cell0 (i := 6) hx.err, _, st.cell0 (i := 6) hy.err, br_i st.ext (fun hne e => hne (by rw [e])) fun q7 => ?_⟩
  refine ⟨_, st.up1.rowAt (i := 80) (n := 32) (by omega), _, st.rowAt (i := 80) (n := 32) (by omega), ?_⟩
  rw [hx.tree, hy.tree]
  refine eqA_hash hx.treeLen hy.treeLen fun t ht => br_t ht st.ext (fun hne e => hne (by rw [e])) fun q8 => ?_
  obtain ⟨c, hc, tc⟩ := hx.label
  obtain ⟨d, hd, td⟩ := hy.label
  have g := bytes_equal_ok (tc.ext st.ext) (td.ext st.ext)
  obtain ⟨p, l, c', rfl, _⟩ := id tc
  obtain ⟨q, m, d', rfl, _⟩ := id td
  refine ⟨_, _, _, st.up1.cell0 (i := 7) hc, _, _, _, st.cell0 (i := 7) hd, eqs_step g st.ext (fun hne e => hne (by rw [e])) fun h28 e q9 => ?_⟩
  have st := st.keep e
  clear g tc td hc hd
  obtain ⟨c, hc, tc⟩ := hx.value
  obtain ⟨d, hd, td⟩ := hy.value
  have g := bytes_equal_ok (tc.ext st.ext) (td.ext st.ext)
  obtain ⟨p, l, c', rfl, _⟩ := id tc
  obtain ⟨q, m, d', rfl, _⟩ := id td
  refine ⟨_, _, _, st.up1.cell0 (i := 8) hc, _, _, _, st.cell0 (i := 8) hd, eqs_step g st.ext (fun hne e => hne (by rw [e])) fun h37 e q10 => ?_⟩
  have st := st.keep e
  clear g tc td hc hd
  have cut : ∀ {zs : List Value}, (((zs.drop 9).take 67).drop 0).take 66 = (zs.drop 9).take 66 := fun {zs} => by rw [List.drop_zero, List.take_take]; rfl
  refine ⟨_, st.up1.rowAt (i := 9) (n := 66) (by omega), _, st.rowAt (i := 9) (n := 66) (by omega), ?_⟩
  rw [← cut, ← cut]
  refine eqA_head hx.sg hy.sg fun t ht => br_t ht st.ext (fun hne e => hne (by rw [e]; exact ⟨rfl, rfl, rfl, rfl⟩)) fun q11 => ?_
  obtain ⟨c, hc, tc⟩ := hx.sg.sig
  obtain ⟨d, hd, td⟩ := hy.sg.sig
  have g := bytes_equal_ok (tc.ext st.ext) (td.ext st.ext)
  obtain ⟨p, l, c', rfl, _⟩ := id tc
  obtain ⟨q, m, d', rfl, _⟩ := id td
  refine ⟨_, _, _, st.up1.cell0 (i := 75) (sub_at hc), _, _, _, st.cell0 (i := 75) (sub_at hd), eqs_step g st.ext (fun hne e => hne (by rw [e])) fun h49 e q12 => ?_⟩
  have st := st.keep e
  clear g tc td hc hd
  refine ⟨_, st.up1.rowAt (i := 76) (n := 2) (by omega), _, st.rowAt (i := 76) (n := 2) (by omega), ?_⟩
  refine eqs_step (sameTrail_ok (keeps_Tr _ _ _ _ st.ext hx.growth) (keeps_Tr _ _ _ _ st.ext hy.growth) (by omega)) st.ext (fun hne e => hne (by rw [e])) fun h54 e q13 => ?_
  have st := st.keep e
  refine ⟨_, st.up1.rowAt (i := 78) (n := 2) (by omega), _, st.rowAt (i := 78) (n := 2) (by omega), ?_⟩
  refine eqs_step (sameTrail_ok (keeps_Tr _ _ _ _ st.ext hx.place) (keeps_Tr _ _ _ _ st.ext hy.place) (by omega)) st.ext (fun hne e => hne (by rw [e])) fun h59 e q14 => ?_
  have st := st.keep e
  refine ⟨_, st.up1.rowAt (i := 112) (n := 163) (by omega), _, st.rowAt (i := 112) (n := 163) (by omega), ?_⟩
  refine eqs_step (sameProof_ok (keeps_Pr _ _ _ _ st.ext hx.proof) (keeps_Pr _ _ _ _ st.ext hy.proof) (by omega)) st.ext (fun hne e => hne (by rw [e])) fun h64 e q15 => ?_
  have st := st.keep e
  obtain ⟨c, hc, tc⟩ := hx.chain
  obtain ⟨d, hd, td⟩ := hy.chain
  have g := sameChain_ok (tc.ext keeps_Vr st.ext) (td.ext keeps_Vr st.ext) (by omega)
  obtain ⟨p, l, c', _, rfl, _⟩ := id tc
  obtain ⟨q, m, d', _, rfl, _⟩ := id td
  refine ⟨_, _, _, st.up1.cell0 (i := 275) hc, _, _, _, st.cell0 (i := 275) hd, eqs_step g st.ext (fun hne e => hne (by rw [e])) fun h73 e q16 => ?_⟩
  have st := st.keep e
  clear g tc td hc hd
  obtain ⟨c, hc, tc⟩ := hx.rows
  obtain ⟨d, hd, td⟩ := hy.rows
  have g := sameRows_ok (tc.ext keeps_Rw st.ext) (td.ext keeps_Rw st.ext) (by omega)
  obtain ⟨p, l, c', _, rfl, _⟩ := id tc
  obtain ⟨q, m, d', _, rfl, _⟩ := id td
  refine ⟨_, _, _, st.up1.cell0 (i := 276) hc, _, _, _, st.cell0 (i := 276) hd, eqs_step g st.ext (fun hne e => hne (by rw [e])) fun h82 e q17 => ?_⟩
  have st := st.keep e
  clear g tc td hc hd
  obtain ⟨c, hc, tc⟩ := hx.news
  obtain ⟨d, hd, td⟩ := hy.news
  have g := sameNewsL_ok (tc.ext keeps_Nw st.ext) (td.ext keeps_Nw st.ext) (by omega)
  obtain ⟨p, l, c', _, rfl, _⟩ := id tc
  obtain ⟨q, m, d', _, rfl, _⟩ := id td
  refine ⟨_, _, _, st.up1.cell0 (i := 277) hc, _, _, _, st.cell0 (i := 277) hd, eqs_step g st.ext (fun hne e => hne (by rw [e])) fun h91 e q18 => ?_⟩
  have st := st.keep e
  clear g tc td hc hd
  obtain ⟨c, hc, tc⟩ := hx.trees
  obtain ⟨d, hd, td⟩ := hy.trees
  have g := sameHashes_ok (tc.ext keeps_Hash st.ext) (td.ext keeps_Hash st.ext) (by omega)
  obtain ⟨p, l, c', _, rfl, _⟩ := id tc
  obtain ⟨q, m, d', _, rfl, _⟩ := id td
  refine ⟨_, _, _, st.up1.cell0 (i := 278) hc, _, _, _, st.cell0 (i := 278) hd, eqs_last g st.ext ⟨fun q19 => ?_, fun e => by rw [e]⟩⟩
  have q20 : x.sg = y.sg := by
    revert q11 q12
    generalize x.sg = a
    generalize y.sg = b
    intro q11 q12
    cases a; cases b
    simp only at q11 q12
    rw [q11.1, q11.2.1, q11.2.2.1, q11.2.2.2, q12]
  clear q11 q12 hx hy sm s1 s2 s3 s4 s5 s6 s7
  cases x; cases y
  simp only at q1 q2 q3 q4 q5 q6 q7 q8 q9 q10 q13 q14 q15 q16 q17 q18 q19 q20
  rw [q1, q2, q3, q4, q5, q6, q7, q8, q9, q10, q13, q14, q15, q16, q17, q18, q19, q20]
end
end Go.Proofs.YthlmiijlhiiccaaGreat
