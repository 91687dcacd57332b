/- Layer 18: the reference's bytes of a message, whole. -/
import Derived.Test.YthlmiijlhiiccaaGreatmh
set_option linter.unusedVariables false
set_option maxRecDepth 100000
namespace Go.Proofs.YthlmiijlhiiccaaGreat
open Go Go.Vc Go.Proofs Go.Vc.Keys
def encB : List Bool → List Int → OB
  | t :: ts, n :: ns => app (if t then encN n else some []) (encB ts ns)
  | _, _ => some []
def numsM (m : Ms) : List Int := [m.src, m.dst, m.seq, m.epoch, m.known]
def part1 (m : Ms) : OB := app (encI 1 1 8 m.kind) (encB (hasK m.kind) (numsM m))
def part2 (m : Ms) : OB := if m.kind = 2 ∨ m.kind = 4 then encE m.err else some []
def part3 (m : Ms) : OB := if m.kind = 1 ∨ m.kind = 3 then encT m.label else some []
def part4 (m : Ms) : OB := if m.kind = 1 then encT m.value else some []
def part5 (m : Ms) : OB := if m.kind = 4 ∧ m.err = 0 then app (encG m.sg) (app (encTr m.growth) (app (encTr m.place) (app (encH m.tree) (app (encPr m.proof) (encL encV m.chain))))) else some []
def part6 (m : Ms) : OB := if m.kind = 5 then app (encG m.sg) (app (encL encR m.rows) (encL encW m.news)) else some []
def part7 (m : Ms) : OB := if m.kind = 8 then app (encG m.sg) (app (encL encW m.news) (encL encH m.trees)) else some []
theorem ref_eq (m : Ms) : app (app (app (app (app (app (part1 m) (part2 m)) (part3 m)) (part4 m)) (part5 m)) (part6 m)) (part7 m) = encM m := by
  have st : ∀ f, m.kind ≠ 4 → stopsM m f = false := fun f h => by
    have : (m.kind == 4) = false := by simpa using h
    unfold stopsM
    rw [this]; rfl
  unfold part1 part2 part3 part4 part5 part6 part7
  by_cases h1 : m.kind = 1
  · simp [h1, st, encM, fieldsK, encFs, encF, hasK, numsM, encB, app_assoc, app_nil, nil_app, encI]
  by_cases h2 : m.kind = 2
  · simp [h2, st, encM, fieldsK, encFs, encF, hasK, numsM, encB, app_assoc, app_nil, nil_app, encI]
  by_cases h3 : m.kind = 3
  · simp [h3, st, encM, fieldsK, encFs, encF, hasK, numsM, encB, app_assoc, app_nil, nil_app, encI]
  by_cases h4 : m.kind = 4
  · by_cases he : m.err = 0
    · have st4 : ∀ f, stopsM m f = false := fun f => by unfold stopsM; rw [he]; simp
      simp [h4, he, st4, encM, fieldsK, encFs, encF, hasK, numsM, encB, app_assoc, app_nil, nil_app, encI]
    · have s8 : stopsM m 8 = true := by unfold stopsM; rw [h4]; simpa using he
      have sn : ∀ f, f ≠ 8 → stopsM m f = false := fun f h => by
        unfold stopsM
        have : (f == 8) = false := by simpa using h
        rw [this]; simp
      simp [h4, he, s8, sn, encM, fieldsK, encFs, encF, hasK, numsM, encB, app_assoc, app_nil, nil_app, encI]
  by_cases h5 : m.kind = 5
  · simp [h5, st, encM, fieldsK, encFs, encF, hasK, numsM, encB, app_assoc, app_nil, nil_app, encI]
  by_cases h6 : m.kind = 6
  · simp [h6, st, encM, fieldsK, encFs, encF, hasK, numsM, encB, app_assoc, app_nil, nil_app, encI]
  by_cases h7 : m.kind = 7
  · simp [h7, st, encM, fieldsK, encFs, encF, hasK, numsM, encB, app_assoc, app_nil, nil_app, encI]
  by_cases h8 : m.kind = 8
  · simp [h8, st, encM, fieldsK, encFs, encF, hasK, numsM, encB, app_assoc, app_nil, nil_app, encI]
  have hf : fieldsK m.kind = [] := by unfold fieldsK; rw [if_neg h1, if_neg h2, if_neg h3, if_neg h4, if_neg h5, if_neg h6, if_neg h7, if_neg h8]
  have hn : encI 1 1 8 m.kind = none := by unfold encI; rw [if_neg (by omega)]
  rw [hn]
  simp only [none_app]
  unfold encM
  rw [if_pos hf]
/-- Strings of a size that is looked at. -/
structure Short (m : Ms) : Prop where
  label : m.label.length ≤ 20000
  value : m.value.length ≤ 20000
  chain : ∀ x ∈ m.chain, x.value.length ≤ 20000
  news : ∀ x ∈ m.news, x.label.length ≤ 20000 ∧ x.v.value.length ≤ 20000
theorem hasK_length (k : Int) : (hasK k).length = 5 := by
  unfold hasK
  split
  · rfl
  split
  · rfl
  split
  · rfl
  split
  · rfl
  split <;> rfl
def RTold (h : Heap) (o : OB) (v : Value) (h' : Heap) : Prop := ∃ p l c, v = .tuple #[.slice p l c, .bool o.isSome] ∧ New h h' [own 1 p l c (bcs (o.getD []))] ∧ (o.getD []).length ≤ 600000000
section
variable {h : Heap}
theorem rbytes_ok {cs : List Value} {m : Ms} (hx : MsR h cs m) (sm : Small m) (sh : Short m) : CallsH Tryz.prog n_ref18_Bytes #[.agg cs.toArray] h fun v h' => RTold h (encM m) v h' := by
  refine C_ref18_Bytes cs.toArray ?_
  unfold F_ref18_Bytes
  have hlen := hx.len
  refine (St.start h).newBlk fun b0 h1 _ st _ => st.newBlk fun b2 h3 _ st _ => ?_
  simp only [add_mk, Nat.zero_add]
  have st : St h h3 [Ro b2 (some []) 0, pts b0 0 false cs] := Ro.cl (p := none) (l := 0) (c := 0) (bs := []) (g := true) (St.nil (st : St h h3 [pts b2 0 false [.slice none 0 0, .bool true], pts b0 0 false cs]) 1).up1 (by simp) ⟨rfl, rfl⟩
  have le : ∀ {j n : Nat}, j + n ≤ 279 → j + n ≤ cs.length := fun h => by omega
  refine ⟨_, st.up1.cell0 (i := 0) hx.kind, ?_⟩
  refine (rnum_ok st m.kind 1 8 1 (by omega) (by omega) (by omega) (by omega)).mono fun v h6 ⟨hv, st⟩ => ⟨hv, ?_⟩
  rw [nil_app] at st
  refine ⟨_, st.up1.cell0 (i := 1) hx.src, _, st.up1.cell0 (i := 2) hx.dst, _, st.up1.cell0 (i := 3) hx.seq, _, st.up1.cell0 (i := 4) hx.epoch, _, st.up1.cell0 (i := 5) hx.known, ?_⟩
  refine st.newBlk fun b12 h13 _ st _ => ?_
  refine st.storeAll (by simp) (by simp) (one_list fun v hv => by simp at hv; rcases hv with rfl | rfl | rfl | rfl | rfl <;> rfl) fun h14 st => ?_
  have st : St h h14 [pts b12 0 false ((numsM m).map (Value.int .i64)), Ro b2 (encI 1 1 8 m.kind) (0 + 1), pts b0 0 false cs] := st
  refine ⟨_, st.up2.cell0 (i := 0) hx.kind, ?_⟩
  refine (numbers_ok m.kind).mono fun v h17 ⟨hv, e⟩ => ⟨e, _, by simp [hasK_length], hv, ?_⟩
  have st := st.keep e
  refine st.newBlk fun b19 h20 _ st _ => ?_
  refine st.storeAll (by simp) (by simp [hasK_length]) (one_list fun v hv => by obtain ⟨t, _, rfl⟩ := List.mem_map.1 hv; rfl) fun h21 st => ?_
  have st : St h h21 [pts b19 0 false ((hasK m.kind).map Value.bool), pts b12 0 false ((numsM m).map (Value.int .i64)), Ro b2 (encI 1 1 8 m.kind) 1, pts b0 0 false cs] := st
  have hhl := hasK_length m.kind
  refine ⟨fun i h' => ∃ (j : Nat) (o : OB), i = j ∧ j ≤ 5 ∧ app o (encB ((hasK m.kind).drop j) ((numsM m).drop j)) = part1 m ∧ St h h' [pts b19 0 false ((hasK m.kind).map Value.bool), pts b12 0 false ((numsM m).map (Value.int .i64)), Ro b2 o (1 + 4 * j), pts b0 0 false cs], fun i _ => (5 - i).toNat,
    ⟨0, _, rfl, by omega, rfl, st⟩, ?_⟩
  clear st
  rintro i h25 ⟨j, o, rfl, hj, ho, st⟩
  rw [br_decide]
  refine ⟨fun hlt => ⟨by omega, by omega, ?_⟩, fun hge => ?_⟩
  · have hjh : j < (hasK m.kind).length := by omega
    have hjn : j < (numsM m).length := by show j < 5; omega
    rw [Int.toNat_natCast, Nat.mul_one]
    rw [List.drop_eq_getElem_cons hjh, List.drop_eq_getElem_cons hjn, encB] at ho
    refine ⟨(hasK m.kind)[j], st.cell0 (i := j) (by rw [List.getElem?_map, List.getElem?_eq_getElem hjh]; rfl), ?_⟩
    rw [wrap_i64 (by omega) (by omega), br_and]
    refine ⟨fun ht => ⟨by omega, by omega, (numsM m)[j], st.up1.cell0 (i := j) (by rw [List.getElem?_map, List.getElem?_eq_getElem hjn]; rfl), ?_⟩, fun ht => ⟨⟨j + 1, o, by omega, by omega, ?_, ?_⟩, by show (5 - ((j : Int) + 1)).toNat < (5 - (j : Int)).toNat; omega⟩⟩
    · rw [if_pos ht, ← app_assoc] at ho
      refine (rnum_ok st.up2 (numsM m)[j] 0 2147483647 4 (by omega) (by omega) (by omega) (by omega)).mono fun v h29 ⟨hv, st⟩ => ⟨hv, ⟨j + 1, _, by omega, by omega, ho, ?_⟩, by show (5 - ((j : Int) + 1)).toNat < (5 - (j : Int)).toNat; omega⟩
      exact Ro.mono st (by omega) |>.dn2
    · rw [if_neg (by rw [ht]; simp), nil_app] at ho
      exact ho
    · exact (Ro.mono st.up2 (by omega)).dn2
  obtain rfl : j = 5 := by omega
  have hd1 : (hasK m.kind).drop 5 = [] := List.drop_of_length_le (by omega)
  have hz : encB [] ((numsM m).drop 5) = some [] := rfl
  rw [hd1, hz, app_nil] at ho
  subst ho
  have he := ref_eq m
  have st := (st.up2.up1.drop).up1.drop
  have st : St h h25 [Ro b2 (part1 m) 21, pts b0 0 false cs] := st
  have K : ∀ {h' : Heap} {o : OB} {N : Nat} (i : Nat) (v : Value), St h h' [Ro b2 o N, pts b0 0 false cs] → cs[i]? = some v → cell h' (Addr.mk b0 i none) = some v := fun i v s e => s.up1.cell0 (i := i) e
  refine ⟨fun _ h' => St h h' [Ro b2 (app (part1 m) (part2 m)) 30, pts b0 0 false cs], ⟨_, K 0 _ st hx.kind, ?_⟩, ?_⟩
  · unfold part2
    have go : (m.kind = 2 ∨ m.kind = 4) → CallsH Tryz.prog n_ref18_Out_number #[ptr b2, .int .i64 m.err, .int .i64 0, .int .i64 13, .int .i64 1] h25 fun v33 h34 => v33 = .tuple #[] ∧ St h h34 [Ro b2 (app (part1 m) (if m.kind = 2 ∨ m.kind = 4 then encE m.err else some [])) 30, pts b0 0 false cs] := fun hk => by
      rw [if_pos hk]
      exact (rnum_ok st m.err 0 13 1 (by omega) (by omega) (by omega) (by omega)).mono fun v h' ⟨hv, s⟩ => ⟨hv, Ro.mono s (by omega)⟩
    rw [br_beq]
    refine ⟨fun h2 => ⟨_, K 6 _ st hx.err, go (.inl h2)⟩, fun h2 => ⟨_, K 0 _ st hx.kind, ?_⟩⟩
    rw [br_beq]
    refine ⟨fun h4 => ⟨_, K 6 _ st hx.err, go (.inr h4)⟩, fun h4 => ?_⟩
    rw [if_neg (by omega), app_nil]
    exact Ro.mono st (by omega)
  clear st
  rintro _ h40 st
  generalize app (part1 m) (part2 m) = o2 at *
  refine ⟨fun _ h' => St h h' [Ro b2 (app o2 (part3 m)) 30100, pts b0 0 false cs], ⟨_, K 0 _ st hx.kind, ?_⟩, ?_⟩
  · unfold part3
    obtain ⟨c, hc, hT⟩ := hx.label
    have hsl := sh.label
    have go : (m.kind = 1 ∨ m.kind = 3) → CallsH Tryz.prog n_ref18_Out_text #[ptr b2, c] h40 fun v33 h34 => v33 = .tuple #[] ∧ St h h34 [Ro b2 (app o2 (if m.kind = 1 ∨ m.kind = 3 then encT m.label else some [])) 30100, pts b0 0 false cs] := fun hk => by
      rw [if_pos hk]
      exact (rtext_ok st hT (by omega) (by omega)).mono fun v h' ⟨hv, s⟩ => ⟨hv, Ro.mono s (by omega)⟩
    obtain ⟨p, l, cap, rfl, _⟩ := id hT
    rw [br_beq]
    refine ⟨fun h2 => ⟨_, _, _, K 7 _ st hc, go (.inl h2)⟩, fun h2 => ⟨_, K 0 _ st hx.kind, ?_⟩⟩
    rw [br_beq]
    refine ⟨fun h4 => ⟨_, _, _, K 7 _ st hc, go (.inr h4)⟩, fun h4 => ?_⟩
    rw [if_neg (by omega), app_nil]
    exact Ro.mono st (by omega)
  clear st
  rintro _ h55 st
  generalize app o2 (part3 m) = o3 at *
  refine ⟨fun _ h' => St h h' [Ro b2 (app o3 (part4 m)) 60200, pts b0 0 false cs], ⟨_, K 0 _ st hx.kind, ?_⟩, ?_⟩
  · unfold part4
    obtain ⟨c, hc, hT⟩ := hx.value
    have hsl := sh.value
    rw [br_beq]
    refine ⟨fun h2 => ?_, fun h2 => ?_⟩
    · rw [if_pos h2]
      have hh := rtext_ok st hT (by omega) (by omega)
      obtain ⟨p, l, cap, rfl, _⟩ := id hT
      exact ⟨_, _, _, K 8 _ st hc, hh.mono fun v h' ⟨hv, s⟩ => ⟨hv, Ro.mono s (by omega)⟩⟩
    · rw [if_neg h2, app_nil]
      exact Ro.mono st (by omega)
  clear st
  rintro _ h64 st
  generalize app o3 (part4 m) = o4 at *
  refine ⟨fun _ h' => St h h' [Ro b2 (app o4 (part5 m)) 105000000, pts b0 0 false cs], ⟨_, K 0 _ st hx.kind, ?_⟩, ?_⟩
  · unfold part5
    rw [br_beq]
    refine ⟨fun h4 => ⟨_, K 6 _ st hx.err, ?_⟩, fun h4 => by rw [if_neg (fun hh => h4 hh.1), app_nil]; exact Ro.mono st (by omega)⟩
    rw [br_beq]
    refine ⟨fun he => ?_, fun he => by rw [if_neg (fun hh => he hh.2), app_nil]; exact Ro.mono st (by omega)⟩
    rw [if_pos ⟨h4, he⟩]
    have hcl := sm.chain
    obtain ⟨c, hc, hL⟩ := hx.chain
    refine ⟨_, st.up1.row0 hlen, ?_⟩
    refine (rsigned_ok st hx (by omega) sm.sig).mono fun v h70 ⟨hv, st⟩ => ⟨hv, _, st.up1.rowAt (i := 76) (n := 2) (le (by omega)), ?_⟩
    refine (rtrail_ok st hx.growth (by omega) sm.growth).mono fun v h73 ⟨hv, st⟩ => ⟨hv, _, st.up1.rowAt (i := 78) (n := 2) (le (by omega)), ?_⟩
    refine (rtrail_ok st hx.place (by omega) sm.place).mono fun v h76 ⟨hv, st⟩ => ⟨hv, _, st.up1.rowAt (i := 80) (n := 32) (le (by omega)), ?_⟩
    refine (rhash_ok (x := m.tree) st ⟨hx.treeLen, hx.tree⟩ (by omega)).mono fun v h79 ⟨hv, st⟩ => ⟨hv, _, st.up1.rowAt (i := 112) (n := 163) (le (by omega)), ?_⟩
    refine (rproof_ok st hx.proof (by omega) sm.steps).mono fun v h82 ⟨hv, st⟩ => ⟨hv, ?_⟩
    have hh := rchain_ok st hL (by omega) hcl sh.chain
    obtain ⟨p, l, cap, rows, rfl, _⟩ := id hL
    refine ⟨_, _, _, st.up1.cell0 (i := 275) hc, hh.mono fun v h87 ⟨hv, st⟩ => ⟨hv, ?_⟩⟩
    simp only [app_assoc] at st ⊢
    exact Ro.mono st (by omega)
  clear st
  rintro _ h89 st
  generalize app o4 (part5 m) = o5 at *
  refine ⟨fun _ h' => St h h' [Ro b2 (app o5 (part6 m)) 310000000, pts b0 0 false cs], ⟨_, K 0 _ st hx.kind, ?_⟩, ?_⟩
  · unfold part6
    rw [br_beq]
    refine ⟨fun h5 => ?_, fun h5 => by rw [if_neg h5, app_nil]; exact Ro.mono st (by omega)⟩
    rw [if_pos h5]
    have hrl := sm.rows
    have hnl := sm.news
    obtain ⟨c, hc, hL⟩ := hx.rows
    obtain ⟨c', hc', hL'⟩ := hx.news
    refine ⟨_, st.up1.row0 hlen, ?_⟩
    refine (rsigned_ok st hx (by omega) sm.sig).mono fun v h94 ⟨hv, st⟩ => ⟨hv, ?_⟩
    have hh := rrows_ok st hL (by omega) hrl
    obtain ⟨p, l, cap, rows, rfl, _⟩ := id hL
    refine ⟨_, _, _, st.up1.cell0 (i := 276) hc, hh.mono fun v h99 ⟨hv, st⟩ => ⟨hv, ?_⟩⟩
    have hh := rnews_ok st hL' (by omega) hnl sh.news
    obtain ⟨p, l, cap, rows, rfl, _⟩ := id hL'
    refine ⟨_, _, _, st.up1.cell0 (i := 277) hc', hh.mono fun v h104 ⟨hv, st⟩ => ⟨hv, ?_⟩⟩
    simp only [app_assoc] at st ⊢
    exact Ro.mono st (by omega)
  clear st
  rintro _ h106 st
  generalize app o5 (part6 m) = o6 at *
  refine ⟨fun _ h' => St h h' [Ro b2 (app o6 (part7 m)) 600000000, pts b0 0 false cs], ⟨_, K 0 _ st hx.kind, ?_⟩, ?_⟩
  · unfold part7
    rw [br_beq]
    refine ⟨fun h5 => ?_, fun h5 => by rw [if_neg h5, app_nil]; exact Ro.mono st (by omega)⟩
    rw [if_pos h5]
    have hnl := sm.news
    have htl := sm.trees
    obtain ⟨c, hc, hL⟩ := hx.news
    obtain ⟨c', hc', hL'⟩ := hx.trees
    refine ⟨_, st.up1.row0 hlen, ?_⟩
    refine (rsigned_ok st hx (by omega) sm.sig).mono fun v h111 ⟨hv, st⟩ => ⟨hv, ?_⟩
    have hh := rnews_ok st hL (by omega) hnl sh.news
    obtain ⟨p, l, cap, rows, rfl, _⟩ := id hL
    refine ⟨_, _, _, st.up1.cell0 (i := 277) hc, hh.mono fun v h116 ⟨hv, st⟩ => ⟨hv, ?_⟩⟩
    have hh := rhashes_ok st hL' (by omega) htl
    obtain ⟨p, l, cap, rows, rfl, _⟩ := id hL'
    refine ⟨_, _, _, st.up1.cell0 (i := 278) hc', hh.mono fun v h121 ⟨hv, st⟩ => ⟨hv, ?_⟩⟩
    simp only [app_assoc] at st ⊢
    exact Ro.mono st (by omega)
  clear st
  rintro _ h123 st
  rw [he] at st
  clear he
  obtain ⟨p, l, c, bs, g, hl, hr, st⟩ := Ro.op st
  refine ⟨_, st.cell0 (i := 1) rfl, ?_⟩
  cases he : encM m with
  | none =>
    rw [he] at hr
    obtain rfl : g = false := hr
    exact ⟨none, 0, 0, rfl, (((St.start h).keep st.ext).nil 1).new ⟨owns_own, trivial⟩, by simp⟩
  | some x =>
    rw [he] at hr
    obtain ⟨rfl, rfl⟩ : g = true ∧ bs = x := hr
    exact ⟨p, l, c, st.cell0 (i := 0) rfl, p, l, c, rfl, st.drop.up1.drop.new ⟨owns_own, trivial⟩, hl⟩
end
end Go.Proofs.YthlmiijlhiiccaaGreat
