/- Layer 1: the laws on writing. -/
import Derived.Test.Ytlalhdkehcldkaa1c
set_option linter.unusedVariables false
set_option maxRecDepth 100000
namespace Go.Proofs.Ytlalhdkehcldkaa
open Go Go.Vc Go.Proofs

theorem awake_ok {h : Heap} : CallsH Try.prog n_law01_awake #[] h fun v h' => v = .bool true ∧ Ext h h' := by
  refine C_law01_awake ?_
  unfold F_law01_awake
  refine (St.start h).newBlk fun b h1 _ s e1 => ?_
  refine (u16_put (W.mk s) 258 (by simp)).mono fun v h3 ⟨hv, s⟩ => ⟨hv, (flag_put s true (by simp [putS, numB])).mono fun v h5 ⟨hv, s⟩ => ⟨hv, ?_⟩⟩
  refine (out_ok s.at (by simp [putS, numB])).mono fun v h7 ⟨p8, l9, c10, hv, n⟩ => ⟨n.ext, p8, l9, c10, 0, by simpa [putS] using hv, ?_⟩
  have hb := bs_own (c := c10) n.st.at
  have hl := hb.1
  simp [putS, numB] at hl
  subst hl
  refine br_yes rfl (br_yes rfl ⟨by omega, by omega, ?_⟩)
  obtain ⟨a, rfl, hc⟩ := hb.cell (i := 1) (by simp [putS, numB])
  exact ⟨_, hc, by simp [putS, numB, dg], s.ext.trans n.ext⟩
theorem awake_br {h0 h : Heap} {l : List HP} {X Y : Heap → Prop} (s : St h0 h l) (hy : ∀ h', St h0 h' l → Y h') :
    CallsH Try.prog n_law01_awake #[] h fun v h' => Ext h h' ∧ ∃ t, v = .bool t ∧ br (!t) (X h') (Y h') :=
  awake_ok.mono fun v h' ⟨hv, e⟩ => ⟨e, _, hv, br_no rfl (hy h' (s.keep e))⟩
theorem awake_end {h0 h : Heap} {l : List HP} (s : St h0 h l) : CallsH Try.prog n_law01_awake #[] h fun v h' => Ext h h' ∧ ∃ t, v = .bool t ∧ (Value.bool t = .bool true ∧ Ext h0 h') :=
  awake_ok.mono fun v h' ⟨hv, e⟩ => ⟨e, _, hv, rfl, s.ext.trans e⟩

def FewP (fs : List Fld) (n : Nat) : Prop := fs.length ≤ n ∧ ∀ f ∈ fs, f.b.length ≤ 9000
theorem few_ok {h : Heap} {p : Option Addr} {l c : Nat} {fs : List Fld} (hf : Flds h p l fs) (n : Nat) (hn : n ≤ 200) :
    CallsH Try.prog n_ref01_Few #[.slice p l c, .int .i64 n] h fun v h' => (∃ t, v = .bool t ∧ (t = true → FewP fs n)) ∧ h' = h := by
  refine C_ref01_Few p l c n ?_
  unfold F_ref01_Few
  have hl := hf.len
  refine ⟨fun i h' => ∃ k : Nat, i = k ∧ k ≤ l ∧ k ≤ 200 ∧ h' = h ∧ ∀ j (h2 : j < fs.length), j < k → fs[j].b.length ≤ 9000, fun i _ => l - i.toNat, ⟨0, rfl, by omega, by omega, rfl, fun j h2 hj => by omega⟩, ?_⟩
  intro i h3 hI
  obtain ⟨k, hi, hk, hk2, hh, hall⟩ := hI
  subst hi; subst hh
  have fin : (k < l → 200 ≤ k) → (∃ t, Value.bool (decide ((l : Int) ≤ (n : Int))) = .bool t ∧ (t = true → FewP fs n)) := by
    intro hkl
    refine ⟨_, rfl, fun ht => ?_⟩
    have hln : l ≤ n := by simp at ht; omega
    refine ⟨by omega, fun f hf' => ?_⟩
    obtain ⟨j, hj, rfl⟩ := List.mem_iff_getElem.1 hf'
    exact hall j hj (by omega)
  rw [br_decide]
  refine ⟨fun hlt => ?_, fun hge => ⟨fin (by omega), by trivial⟩⟩
  rw [br_decide]
  refine ⟨fun hlt2 => ⟨by omega, hlt, ?_⟩, fun hge => ⟨fin (by omega), by trivial⟩⟩
  obtain ⟨b, o, q, l', c', h2, rfl, g0, g1, g2, _, _, hb, _⟩ := hf.get (i := k) (by omega)
  simp only [deref_some, Int.toNat_natCast, add_mk]
  refine ⟨q, l', c', g2, ?_⟩
  rw [br_decide]
  refine ⟨fun hgt => ⟨⟨_, rfl, fun ht => by cases ht⟩, by trivial⟩, fun hle => ?_⟩
  rw [wrap_i64 (by omega) (by omega)]
  refine ⟨⟨k + 1, by omega, by omega, by omega, by trivial, fun j h2 hj => ?_⟩, by show l - ((k : Int) + 1).toNat < l - (k : Int).toNat; omega⟩
  by_cases hjk : j = k
  · subst hjk
    have := hb.1
    omega
  · exact hall j h2 (by omega)
def SmallP (fs : List Fld) : Prop := ∀ f ∈ fs, f.x ≤ 4611686018427387904 ∨ f.k = 4
theorem small_ok {h : Heap} {p : Option Addr} {l c : Nat} {fs : List Fld} (hf : Flds h p l fs) (hl60 : l ≤ 1000) :
    CallsH Try.prog n_law01_small #[.slice p l c] h fun v h' => (∃ t, v = .bool t ∧ (t = true → SmallP fs)) ∧ h' = h := by
  refine C_law01_small p l c ?_
  unfold F_law01_small
  have hl := hf.len
  refine ⟨fun i h' => ∃ k : Nat, i = k ∧ k ≤ l ∧ h' = h ∧ ∀ j (h2 : j < fs.length), j < k → fs[j].x ≤ 4611686018427387904 ∨ fs[j].k = 4, fun i _ => l - i.toNat, ⟨0, rfl, by omega, rfl, fun j h2 hj => by omega⟩, ?_⟩
  intro i h3 hI
  obtain ⟨k, hi, hk, hh, hall⟩ := hI
  subst hi; subst hh
  rw [br_decide]
  refine ⟨fun hlt => ⟨by omega, hlt, ?_⟩, fun hge => ⟨⟨_, rfl, fun _ f hf' => ?_⟩, by trivial⟩⟩
  · obtain ⟨b, o, q, l', c', h2, rfl, g0, g1, g2, _, _, hb, _⟩ := hf.get (i := k) (by omega)
    simp only [deref_some, Int.toNat_natCast, add_mk, Nat.add_zero]
    refine ⟨_, g1, ?_⟩
    have next : (fs[k].x ≤ 4611686018427387904 ∨ fs[k].k = 4) → (∃ j : Nat, (k : Int) + 1 = j ∧ j ≤ l ∧ True ∧ ∀ i (h2 : i < fs.length), i < j → fs[i].x ≤ 4611686018427387904 ∨ fs[i].k = 4) ∧ l - ((k : Int) + 1).toNat < l - k := by
      intro hk'
      refine ⟨⟨k + 1, by omega, by omega, trivial, fun j h2 hj => ?_⟩, by omega⟩
      by_cases hjk : j = k
      · subst hjk; exact hk'
      · exact hall j h2 (by omega)
    rw [wrap_i64 (by omega) (by omega), br_decide]
    refine ⟨fun hgt => ⟨by omega, by omega, _, g0, ?_⟩, fun hle => next (.inl (by omega))⟩
    rw [br_bne]
    exact ⟨fun hne => ⟨⟨_, rfl, fun ht => by cases ht⟩, by trivial⟩, fun he => next (.inr he)⟩
  · obtain ⟨j, hj, rfl⟩ := List.mem_iff_getElem.1 hf'
    exact hall j hj (by omega)

/-- What a field puts. -/
def putF (f : Fld) : Option (List UInt8) :=
  let y := IntKind.i64.wrap f.x
  if f.k = 1 then (if 0 ≤ y ∧ y ≤ 255 then some (numB y.toNat 1) else none) else if f.k = 2 then (if 0 ≤ y ∧ y ≤ 65535 then some (numB y.toNat 2) else none) else if f.k = 3 then some (numB (f.x % 4294967296) 4) else if f.k = 4 then some (numB f.x 8)
  else if f.k = 5 then some (numB (if (decide (f.x % 2 = 1)) then 1 else 0) 1) else if f.k = 6 then some f.b else if f.k = 7 then (if f.b.length ≤ 8192 then some (numB f.b.length 2 ++ f.b) else none) else if f.k = 8 then (if 0 ≤ y ∧ y ≤ 4096 then some (numB y.toNat 2) else none) else some []
theorem putF_small {f : Fld} (hs : f.x ≤ 4611686018427387904 ∨ f.k = 4) : putF f = if (bytesF f).2 then some (bytesF f).1 else none := by
  have hy : f.x ≤ 4611686018427387904 → IntKind.i64.wrap (f.x : Int) = (f.x : Int) := fun h => wrap_i64 (by omega) (by omega)
  unfold putF bytesF
  simp only
  by_cases e1 : f.k = 1
  · simp only [if_pos e1]
    rw [hy (by omega), Int.toNat_natCast]
    by_cases hc : f.x ≤ 255
    · rw [if_pos (by omega), if_pos (by simpa using hc)]
    · rw [if_neg (by omega), if_neg (by simpa using hc)]
  simp only [if_neg e1]
  by_cases e2 : f.k = 2
  · simp only [if_pos e2]
    rw [hy (by omega), Int.toNat_natCast]
    by_cases hc : f.x ≤ 65535
    · rw [if_pos (by omega), if_pos (by simpa using hc)]
    · rw [if_neg (by omega), if_neg (by simpa using hc)]
  simp only [if_neg e2]
  by_cases e3 : f.k = 3
  · simp [if_pos e3]
  simp only [if_neg e3]
  by_cases e4 : f.k = 4
  · simp [if_pos e4]
  simp only [if_neg e4]
  by_cases e5 : f.k = 5
  · simp only [if_pos e5]
    have := Nat.mod_two_eq_zero_or_one f.x
    rcases this with e | e <;> simp [e]
  simp only [if_neg e5]
  by_cases e6 : f.k = 6
  · simp [if_pos e6]
  simp only [if_neg e6]
  by_cases e7 : f.k = 7
  · simp only [if_pos e7]
    by_cases hc : f.b.length ≤ 8192
    · simp only [if_pos hc, if_neg (show ¬ 8192 < f.b.length by omega)]; rfl
    · simp only [if_neg hc, if_pos (show 8192 < f.b.length by omega)]; rfl
  simp only [if_neg e7]
  by_cases e8 : f.k = 8
  · simp only [if_pos e8]
    rw [hy (by omega), Int.toNat_natCast]
    by_cases hc : f.x ≤ 4096
    · rw [if_pos (by omega), if_pos (by simpa using hc)]
    · rw [if_neg (by omega), if_neg (by simpa using hc)]
  simp [if_neg e8]
theorem putF_len {f : Fld} (hb : f.b.length ≤ 9000) {xs : List UInt8} (h : putF f = some xs) : xs.length ≤ 9002 := by
  unfold putF at h
  simp only at h
  repeat' split at h
  all_goals first
    | (cases h; done)
    | (cases h; simp [numB_length]; done)
    | (cases h; simp [numB_length]; omega)
    | (cases h; omega)
theorem put_ok {h0 h : Heap} {F : List HP} {b : Nat} {bs : List UInt8} {sp : Bool} {f : Fld} {p : Option Addr} {l c : Nat} (hs : St h0 h (W b bs sp :: F)) (hb : Bs h0 p l f.b) (hx : f.x < 18446744073709551616) (hbl : f.b.length ≤ 9000) (hl : bs.length ≤ 1000000000) :
    CallsH Try.prog n_law01_put #[ptr b, .agg #[.int .i64 f.k, .int .u64 (f.x : Int), .slice p l c]] h (Put h0 F b bs sp (putF f)) := by
  refine C_law01_put _ _ ?_
  unfold F_law01_put
  refine hs.newBlk fun b0 h1 _ s e => ?_
  simp only [add_mk, Nat.zero_add, Nat.add_zero]
  have c0 := s.cell0 (i := 0) (v := .int .i64 f.k) rfl
  have c1 := s.cell0 (i := 1) (v := .int .u64 (f.x : Int)) rfl
  have c2 := s.cell0 (i := 2) (v := .slice p l c) rfl
  have s := s.drop
  refine ⟨f.k, c0, ?_⟩
  simp only [br_beq]
  have fin : ∀ {o : Option (List UInt8)} {v : Value} {h' : Heap}, Put h0 F b bs sp o v h' → putF f = o → v = unit ∧ Put h0 F b bs sp (putF f) unit h' := fun hp he => by
    rw [he]; exact ⟨hp.1, rfl, hp.2⟩
  refine ⟨fun e1 => ⟨f.x, c1, ?_⟩, fun e1 => ⟨fun e2 => ⟨f.x, c1, ?_⟩, fun e2 => ⟨fun e3 => ⟨f.x, c1, ?_⟩, fun e3 => ⟨fun e4 => ⟨f.x, c1, ?_⟩, fun e4 => ⟨fun e5 => ⟨f.x, c1, by omega, ?_⟩, fun e5 => ⟨fun e6 => ⟨p, l, c, c2, ?_⟩, fun e6 => ⟨fun e7 => ⟨p, l, c, c2, ?_⟩, fun e7 => ⟨fun e8 => ⟨f.x, c1, ?_⟩, fun e8 => ?_⟩⟩⟩⟩⟩⟩⟩⟩
  · exact (u8_put s _ (by omega)).mono fun v h' hp => fin hp (by unfold putF; simp only [if_pos e1])
  · exact (u16_put s _ (by omega)).mono fun v h' hp => fin hp (by unfold putF; simp only [if_neg e1, if_pos e2])
  · have ew : IntKind.wrap .u32 (f.x : Int) = ((f.x % 4294967296 : Nat) : Int) := by rw [wrap_u32]; omega
    rw [ew]
    exact (u32_put s _ (by omega) (by omega)).mono fun v h' hp => fin hp (by unfold putF; simp only [if_neg e1, if_neg e2, if_pos e3])
  · exact (u64_put s _ (by omega)).mono fun v h' hp => fin hp (by unfold putF; simp only [if_neg e1, if_neg e2, if_neg e3, if_pos e4])
  · have em : (Int.tmod (f.x : Int) 2 == 1) = decide (f.x % 2 = 1) := by
      have : Int.tmod (f.x : Int) 2 = ((f.x % 2 : Nat) : Int) := rfl
      rw [this, Bool.eq_iff_iff, beq_iff_eq, decide_eq_true_iff]
      omega
    rw [em]
    exact (flag_put s _ (by omega)).mono fun v h' hp => fin hp (by unfold putF; simp only [if_neg e1, if_neg e2, if_neg e3, if_neg e4, if_pos e5])
  · exact (plain_put s (hb.ext s.ext) (by omega)).mono fun v h' hp => fin hp (by unfold putF; simp only [if_neg e1, if_neg e2, if_neg e3, if_neg e4, if_neg e5, if_pos e6])
  · refine (string_put (s.old hb.2).up1 (by omega)).mono fun v h' hp => ?_
    have hp' : Put h0 F b bs sp (if f.b.length ≤ 8192 then some (numB f.b.length 2 ++ f.b) else none) v h' := ⟨hp.1, hp.2.up1.drop⟩
    exact fin hp' (by unfold putF; simp only [if_neg e1, if_neg e2, if_neg e3, if_neg e4, if_neg e5, if_neg e6, if_pos e7])
  · exact (count_put s _ (by omega)).mono fun v h' hp => fin hp (by unfold putF; simp only [if_neg e1, if_neg e2, if_neg e3, if_neg e4, if_neg e5, if_neg e6, if_neg e7, if_pos e8])
  · refine ⟨rfl, ?_⟩
    have he : putF f = some [] := by unfold putF; simp only [if_neg e1, if_neg e2, if_neg e3, if_neg e4, if_neg e5, if_neg e6, if_neg e7, if_neg e8]
    rw [he]
    cases sp
    · simp only [putS, List.append_nil]; exact s
    · exact s

/- ### All fields -/
def allOk (fs : List Fld) : Bool := fs.all fun f => (bytesF f).2
def allB (fs : List Fld) : List UInt8 := fs.flatMap fun f => (bytesF f).1
theorem allOk_take {fs : List Fld} {k : Nat} (hk : k < fs.length) : allOk (fs.take (k + 1)) = (allOk (fs.take k) && (bytesF fs[k]).2) := by
  unfold allOk; rw [List.take_succ_eq_append_getElem hk, List.all_append]; simp
theorem allB_take {fs : List Fld} {k : Nat} (hk : k < fs.length) : allB (fs.take (k + 1)) = allB (fs.take k) ++ (bytesF fs[k]).1 := by
  unfold allB; rw [List.take_succ_eq_append_getElem hk, List.flatMap_append]; simp
theorem allOk_mono {fs : List Fld} {k : Nat} (h : allOk (fs.take k) = false) : allOk fs = false := by
  cases e : allOk fs with
  | false => rfl
  | true =>
    unfold allOk at e h
    rw [List.all_eq_true] at e
    have : (fs.take k).all (fun f => (bytesF f).2) = true := List.all_eq_true.2 fun f hf => e f (List.mem_of_mem_take hf)
    rw [this] at h; cases h
theorem bytesF_len {f : Fld} (hb : f.b.length ≤ 9000) : (bytesF f).1.length ≤ 9002 := by
  unfold bytesF
  repeat' split
  all_goals first
    | (simp [numB_length]; done)
    | (simp [numB_length]; omega)
    | omega
theorem all_ok {h : Heap} {p : Option Addr} {l c : Nat} {fs : List Fld} (hf : Flds h p l fs) (hfew : FewP fs 60) :
    CallsH Try.prog n_ref01_All #[.slice p l c] h fun v h' => ∃ p' l' c', v = .tuple #[.slice p' l' c', .bool (allOk fs)] ∧ New h h' [own 1 p' l' c' (bcs (if allOk fs then allB fs else []))] := by
  refine C_ref01_All p l c ?_
  unfold F_ref01_All
  have hl := hf.len
  have hl60 := hfew.1
  refine ⟨fun t h' => ∃ k : Nat, t.2 = (k : Int) ∧ k ≤ l ∧ allOk (fs.take k) = true ∧ (allB (fs.take k)).length ≤ 9002 * k ∧ St h h' [own 1 t.1.1 t.1.2.1 t.1.2.2 (bcs (allB (fs.take k)))], fun t _ => l - t.2.toNat, ⟨0, rfl, by omega, rfl, by simp [allB], (St.start h).nil 1⟩, ?_⟩
  rintro ⟨⟨q, ql, qc⟩, i⟩ h3 ⟨k, hi, hk, hok, hlen, s⟩
  simp only at hi s ⊢
  subst hi
  rw [br_decide]
  refine ⟨fun hlt => ⟨by omega, hlt, ?_⟩, fun hge => ?_⟩
  · obtain ⟨b, o, q', l', c', h2, rfl, g0, g1, g2, hlc, _, hb, hx, _, _, g3⟩ := (hf.ext s.ext).get (i := k) (by omega)
    simp only [deref_some, Int.toNat_natCast, add_mk]
    refine ⟨_, g3, (bytes_ok hb hx).mono fun v h7 ⟨p8, l9, c10, hv, e7, hb7⟩ => ⟨e7, p8, l9, c10, _, hv, ?_⟩⟩
    have s := s.keep e7
    rw [br_not]
    have ht := allOk_take (fs := fs) (k := k) (by omega)
    rw [hok, Bool.true_and] at ht
    cases hbk : (bytesF fs[k]).2
    · refine br_no rfl ?_
      have hall : allOk fs = false := allOk_mono (k := k + 1) (by rw [ht, hbk])
      rw [hall]
      exact ⟨none, 0, 0, rfl, ((St.nil s 1).up1.drop).new ⟨owns_own, trivial⟩⟩
    · have hql := s.len
      rw [bcs_length] at hql
      have hbl := bytesF_len (hfew.2 _ (List.getElem_mem h2))
      have hb7l := hb7.1
      refine br_yes rfl (s.append hb7.2 (bvs_one _) rfl (by omega) (by unfold maxLen; omega) fun p' c' h15 s _ => ?_)
      rw [wrap_i64 (by omega) (by omega)]
      refine ⟨⟨k + 1, by omega, by omega, by rw [ht, hbk], ?_, ?_⟩, by show l - ((k : Int) + 1).toNat < l - (k : Int).toNat; omega⟩
      · rw [allB_take (by omega), List.length_append]; omega
      · rw [allB_take (by omega), bcs_append]; exact s
  · have : k = l := by omega
    subst this
    rw [List.take_of_length_le (by omega)] at hok s
    rw [hok]
    exact ⟨q, ql, qc, rfl, s.new ⟨owns_own, trivial⟩⟩

theorem Put.upd {h0 h' : Heap} {F : List HP} {b : Nat} {bs : List UInt8} {sp : Bool} {o : Option (List UInt8)} {v : Value} (hp : Put h0 F b bs sp o v h') : St h0 h' (W b (putS bs sp o).1 (putS bs sp o).2 :: F) := hp.2
theorem putS_len {bs : List UInt8} {sp : Bool} {f : Fld} (hb : f.b.length ≤ 9000) : (putS bs sp (putF f)).1.length ≤ bs.length + 9002 := by
  unfold putS
  split
  · rename_i xs hx
    have := putF_len hb hx
    rw [List.length_append]; omega
  · show bs.length ≤ _; omega
theorem wireWrites_ok {h : Heap} {p : Option Addr} {l c : Nat} {fs : List Fld} (hf : Flds h p l fs) :
    CallsH Try.prog n_law01_WireWrites #[.slice p l c] h fun v h' => v = .bool true ∧ Ext h h' := by
  refine C_law01_WireWrites p l c ?_
  unfold F_law01_WireWrites
  have hl := hf.len
  refine awake_br (St.start h) fun h1 s => ?_
  refine (few_ok (hf.ext s.ext) 60 (by omega)).mono fun v h7 ⟨⟨t, hv, ht⟩, hh⟩ => ?_
  subst hh
  refine ⟨Ext.refl _, t, hv, ?_⟩
  cases t
  · exact br_yes rfl (awake_end s)
  have hfew := ht rfl
  have hl60 := hfew.1
  refine br_no rfl ((small_ok (hf.ext s.ext) (by omega)).mono fun v h13 ⟨⟨t, hv, ht⟩, hh⟩ => ?_)
  subst hh
  refine ⟨Ext.refl _, t, hv, ?_⟩
  cases t
  · exact br_yes rfl (awake_end s)
  have hsm := ht rfl
  refine br_no rfl (s.newBlk fun b h19 _ s _ => ?_)
  refine ⟨fun i h' => ∃ k : Nat, i = k ∧ k ≤ l ∧ ∃ bs, (allOk (fs.take k) = true → bs = allB (fs.take k)) ∧ bs.length ≤ 9002 * k ∧ St h h' [W b bs (!allOk (fs.take k))], fun i _ => l - i.toNat, ⟨0, rfl, by omega, [], fun _ => rfl, by simp, W.mk s⟩, ?_⟩
  intro i h23 hI
  obtain ⟨k, hi, hk, bs, hbs, hlen, s⟩ := hI
  subst hi
  rw [br_decide]
  refine ⟨fun hlt => ⟨by omega, hlt, ?_⟩, fun hge => ?_⟩
  · obtain ⟨b0, o, q, l', c', h2, rfl, _, _, _, _, _, hb, hx, _⟩ := hf.get (i := k) (by omega)
    obtain ⟨b0', o', q', l'', c'', h2', e, _, _, _, _, _, hb', _, _, _, g3⟩ := (hf.ext s.ext).get (i := k) (by omega)
    cases e
    simp only [deref_some, Int.toNat_natCast, add_mk]
    obtain ⟨_, _, _, _, _, _, e, _, _, g2, _, _, hb0, _⟩ := hf.get (i := k) (by omega)
    cases e
    obtain ⟨_, _, _, _, _, _, e, _, _, g2', _, _, _, _, _, _, g3'⟩ := (hf.ext s.ext).get (i := k) (by omega)
    cases e
    have hsame := s.ext.cell g2
    rw [hsame] at g2'
    cases g2'
    refine ⟨_, g3', (put_ok s hb0 hx (hfew.2 _ (List.getElem_mem h2)) (by omega)).mono fun v h27 hp => ⟨hp.1, ?_⟩⟩
    rw [wrap_i64 (by omega) (by omega)]
    have hup := hp.upd
    have hpl := putS_len (bs := bs) (sp := !allOk (fs.take k)) (hfew.2 _ (List.getElem_mem h2))
    have hps := putF_small (hsm _ (List.getElem_mem h2))
    have ht := allOk_take (fs := fs) (k := k) (by omega)
    refine ⟨⟨k + 1, by omega, by omega, (putS bs (!allOk (fs.take k)) (putF fs[k])).1, ?_, by omega, ?_⟩, by show l - ((k : Int) + 1).toNat < l - (k : Int).toNat; omega⟩
    · intro hok
      rw [ht, Bool.and_eq_true] at hok
      rw [hps, hok.1, hok.2, allB_take (by omega), hbs hok.1]
      rfl
    · have e : (putS bs (!allOk (fs.take k)) (putF fs[k])).2 = !allOk (fs.take (k + 1)) := by
        rw [ht, hps]
        cases allOk (fs.take k) <;> cases (bytesF fs[k]).2 <;> rfl
      rw [← e]; exact hup
  · have : k = l := by omega
    subst this
    rw [List.take_of_length_le (by omega)] at hbs s
    refine (out_ok s.at (by omega)).mono fun v h29 ⟨p30, l31, c32, hv, n⟩ => ⟨n.ext, p30, l31, c32, _, hv, ?_⟩
    have s := s.join n
    refine (all_ok (hf.ext s.ext) hfew).mono fun v h35 ⟨p36, l37, c38, hv, n2⟩ => ⟨n2.ext, p36, l37, c38, _, hv, ?_⟩
    have s := s.join n2
    have b1 := bs_own (c := c38) s.at
    have b2 := bs_own (c := c32) s.up1.at
    have hl31 := b2.1
    cases hok : allOk fs
    · rw [hok] at b1 b2
      refine br_yes (by simp) (br_no (by simp) (br_yes (by simp) ?_))
      refine (same_ok b2 b1 (by have := b2.1; simp at this; omega)).mono fun v h44 ⟨hv, hh⟩ => ?_
      subst hh
      exact ⟨Ext.refl _, _, hv, by simp, s.ext⟩
    · rw [hok] at b1 b2
      have hb := hbs hok
      subst hb
      refine br_yes (by simp) (br_yes (by simp) ?_)
      refine (same_ok b2 b1 (by have := b2.1; simp at this; omega)).mono fun v h44 ⟨hv, hh⟩ => ?_
      subst hh
      exact ⟨Ext.refl _, _, hv, by simp, s.ext⟩
end Go.Proofs.Ytlalhdkehcldkaa
