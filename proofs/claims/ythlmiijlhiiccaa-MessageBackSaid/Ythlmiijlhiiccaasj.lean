/- Layer 18: MessageBack. -/
import Derived.Test.Ythlmiijlhiiccaasi
import Derived.Test.YthlmiijlhiiccaaFl
set_option linter.unusedVariables false
set_option linter.unusedSimpArgs false
set_option maxRecDepth 100000
namespace Go.Proofs.Ythlmiijlhiiccaa
open Go Go.Vc Go.Proofs Go.Vc.Keys
theorem setF_small {m0 m : Ms} (a : Small m0) (b : Small m) (i : Nat) : Small (setF i m0 m) := by
  have hp := barePr_steps m.proof
  have h3 := b.steps
  have h5 := b.rows
  unfold setF
  split
  all_goals first
    | exact a
    | exact ⟨a.sig, a.growth, a.place, a.steps, a.chain, a.rows, a.news, a.trees⟩
    | exact ⟨b.sig, a.growth, a.place, a.steps, a.chain, a.rows, a.news, a.trees⟩
    | exact ⟨a.sig, b.growth, a.place, a.steps, a.chain, a.rows, a.news, a.trees⟩
    | exact ⟨a.sig, a.growth, b.place, a.steps, a.chain, a.rows, a.news, a.trees⟩
    | exact ⟨a.sig, a.growth, a.place, by show (barePr m.proof).steps.length ≤ _; rw [hp]; exact h3, a.chain, a.rows, a.news, a.trees⟩
    | exact ⟨a.sig, a.growth, a.place, a.steps, b.chain, a.rows, a.news, a.trees⟩
    | exact ⟨a.sig, a.growth, a.place, a.steps, a.chain, by show (m.rows.map bareRw).length ≤ _; rw [List.length_map]; exact h5, a.news, a.trees⟩
    | exact ⟨a.sig, a.growth, a.place, a.steps, a.chain, a.rows, b.news, a.trees⟩
    | exact ⟨a.sig, a.growth, a.place, a.steps, a.chain, a.rows, a.news, b.trees⟩
theorem setFs_small {m : Ms} (b : Small m) : ∀ (is : List Nat) {m0 : Ms}, Small m0 → Small (setFs is m0 m)
  | [], m0, a => a
  | i :: is, m0, a => by
    unfold setFs
    split
    · exact a
    · exact setFs_small b is (setF_small a b i)
theorem bare_small {m : Ms} (b : Small m) : Small (bareM m) := by
  unfold bareM
  exact setFs_small b _ ⟨Nat.zero_le _, ⟨Nat.zero_le _, Nat.zero_le _⟩, ⟨Nat.zero_le _, Nat.zero_le _⟩, Nat.zero_le _, Nat.zero_le _, Nat.zero_le _, Nat.zero_le _, Nat.zero_le _⟩
section
variable {h : Heap}
theorem messageBack_ok {cs : List Value} {m : Ms} (hx : MsR h cs m) : CallsH Try.prog n_law18_MessageBack #[.agg cs.toArray] h fun v h' => v = .bool true ∧ Ext h h' := by
  refine C_law18_MessageBack cs.toArray ?_
  unfold F_law18_MessageBack
  have hlen := hx.len
  refine (St.start h).newBlk fun b0 h1 _ st _ => ?_
  have st : St h h1 [pts b0 0 false cs] := st
  have aw : ∀ {h' : Heap}, Ext h h' → CallsH Try.prog n_law18_awake #[] h' fun v h14 => Ext h' h14 ∧ ∃ t15, v = .bool t15 ∧ (Value.bool t15 = .bool true ∧ Ext h h14) := fun e0 => awake18_ok.mono fun v h14 ⟨hv, e⟩ => ⟨e, _, hv, rfl, e0.trans e⟩
  refine ⟨fun _ h' => St h h' [pts b0 0 false cs] ∧ Few18 m, awake18_ok.mono fun v h4 ⟨hv, e⟩ => ⟨e, _, hv, br_no rfl ?_⟩, ?_⟩
  · have st := st.keep e
    refine ⟨_, st.row0 hlen, (few18_ok (keeps_Ms _ _ _ _ st.ext hx)).mono fun v h11 ⟨g, hv, e, hg⟩ => ⟨e, g, hv, ?_⟩⟩
    have st := st.keep e
    cases g with
    | false => exact br_yes rfl (aw st.ext)
    | true => exact br_no rfl ⟨st, hg rfl⟩
  clear st
  rintro _ h17 ⟨st, fw⟩
  have sm := fw.small
  refine ⟨_, st.row0 hlen, (encode18_ok (keeps_Ms _ _ _ _ st.ext hx) sm).mono fun v h26 ht => ?_⟩
  obtain ⟨p, l, c', hv, nw, hbound⟩ := ht
  refine ⟨nw.ext, p, l, c', _, hv, ?_⟩
  have st := st.join nw
  cases he : encM m with
  | none =>
    rw [he] at st
    have st : St h h26 [own 1 p l c' (bcs []), pts b0 0 false cs] := st
    have hl := St.blen (bs := []) st
    have : l = 0 := hl.1.symm
    subst this
    exact br_yes rfl ⟨rfl, st.ext⟩
  | some b =>
    rw [he] at st hbound
    have st : St h h26 [own 1 p l c' (bcs b), pts b0 0 false cs] := st
    have hbound : b.length ≤ 1000000000 := hbound
    refine br_no rfl ?_
    have hb := bs_own (bs := b) st.at
    have hbl := hb.1
    have hfk : fieldsK m.kind ≠ [] := fun e => by unfold encM at he; rw [if_pos e] at he; cases he
    have hdec : decM b = some (bareM m) := by
      have := decM_full (rest := []) he
      rwa [List.append_nil, if_pos rfl] at this
    refine (decode18_ok hb (by omega)).mono fun v h35 ⟨e, cs1, hv, hms⟩ => ⟨e, cs1.toArray, by simpa using hms.len, _, hv, ?_⟩
    rw [hdec] at hms hv ⊢
    have hms : MsR h35 cs1 (bareM m) := hms
    have st := st.keep e
    refine (St.start h35).newBlk fun b29 h30 _ s2 _ => ?_
    refine s2.storeAll rfl (by simpa using hms.len) (one_list hms.ones) fun h31 s2 => br_yes rfl ?_
    have s2 : St h35 h31 [pts b29 0 false cs1] := s2
    have st := st.keep s2.ext
    refine ⟨_, s2.row0 hms.len, _, st.up1.row0 hlen, (bare18_ok (keeps_Ms _ _ _ _ st.ext hx) sm hfk).mono fun v h40 ⟨cs', hv, e', hb'⟩ => ⟨e', _, by simpa using hb'.len, hv, ?_⟩⟩
    refine (same18_ok (keeps_Ms _ _ _ _ (s2.ext.trans e') hms) hb' (bare_small sm)).mono fun v h41 hq => ?_
    obtain ⟨t, hv, hr, e2⟩ := hq
    obtain rfl : t = true := hr.2 rfl
    exact ⟨e2, _, hv, rfl, (st.ext.trans e').trans e2⟩
end
end Go.Proofs.Ythlmiijlhiiccaa
