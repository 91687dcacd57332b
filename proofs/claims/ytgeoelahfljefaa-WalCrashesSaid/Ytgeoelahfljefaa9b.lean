/- Layer 9: whether a page is right. -/
import Derived.Test.Ytgeoelahfljefaa9a
set_option linter.unusedVariables false
set_option maxRecDepth 100000
namespace Go.Proofs.Ytgeoelahfljefaa
open Go Go.Vc Go.Proofs
section
variable {h0 h : Heap} {F : List HP} {b n : Nat} {D : Dev}
theorem one_part (a b c : Int) (p : Option Addr) (l n : Nat) : one #[.int .u32 a, .int .i64 b, .int .i64 c, .slice p l n] := by
  intro v hv
  simp at hv
  rcases hv with h | h | h | h <;> subst h <;> rfl
theorem one_part' (a b : Int) (p : Option Addr) (l n : Nat) (q : Option Addr) (m k : Nat) : one #[.int .i64 a, .int .i64 b, .slice p l n, .slice q m k] := by
  intro v hv
  simp at hv
  rcases hv with h | h | h | h <;> subst h <;> rfl
/-- What is told of a page. -/
def Told (h : Heap) (xs : List UInt8) (place least : Nat) (v : Value) (h' : Heap) : Prop :=
  ∃ (g pl k : Nat) (p' : Option Addr) (l' c' : Nat) (t : Bool) (part : List UInt8), v = .tuple #[.agg #[.int .u32 g, .int .i64 pl, .int .i64 k, .slice p' l' c'], .bool t] ∧
    decW xs place least = (if t then some (g, k, part) else none) ∧ part.length ≤ 110 ∧ k < 256 ∧ New h h' [own 1 p' l' c' (bcs part)]
theorem parted_ok {xs : List UInt8} {p : Option Addr} {l c : Nat} (hx : Bs h p l xs) (hl : xs.length = 128) {place least : Nat} (hp : place < 1000000000) (hle : least < 4294967296) :
    CallsH Try.prog n_wal_parted #[.slice p l c, .int .i64 place, .int .u32 least] h (Told h xs place least) := by
  refine C_wal_parted p l c place least ?_
  unfold F_wal_parted
  have hxl := hx.1
  refine (St.start h).newBlk fun b0 h1 _ s _ => ?_
  refine (rdr_ok (hx.ext s.ext) (by omega)).mono fun v h3 ⟨r, hv, nw⟩ => ⟨nw.ext, _, hv, ?_⟩
  have s := s.join nw
  simp only [List.cons_append, List.nil_append] at s
  have e1 : numR xs false 8 = (mk9 xs, xs.drop 8, false) := by rw [numR, if_pos ⟨rfl, by omega⟩]; rfl
  refine (rU64_ok s).mono fun v h6 ⟨hv, s⟩ => ⟨_, hv, by omega, ?_⟩
  rw [e1] at s ⊢
  dsimp only at s ⊢
  have hm := mk9_lt xs
  have hl8 : (xs.drop 8).length = 120 := by rw [List.length_drop]; omega
  have e2 : numR (xs.drop 8) false 1 = (kd9 xs, xs.drop 9, false) := by rw [numR, if_pos ⟨rfl, by omega⟩, List.drop_drop]; rfl
  refine (rU8_ok s).mono fun v h9 ⟨hv, s⟩ => ⟨_, hv, ?_⟩
  rw [e2] at s ⊢
  dsimp only at s ⊢
  have hk : kd9 xs < 256 := byte_lt _
  refine s.newBlk fun b11 h12 _ s _ => ?_
  have eg : IntKind.wrap .u32 (shrI .u64 (mk9 xs : Int) 32) = ((mk9 xs / 4294967296 : Nat) : Int) := by
    have : (32 : Int) = ((32 : Nat) : Int) := rfl
    rw [this, shrI_nat _ _ _ (show 32 ≤ 64 by omega), wrap_u32]
    have : (2 : Nat) ^ 32 = 4294967296 := rfl
    rw [this]
    omega
  have ep : IntKind.wrap .i64 (IntKind.wrap .u32 (mk9 xs : Int)) = ((mk9 xs % 4294967296 : Nat) : Int) := by
    rw [wrap_u32, wrap_i64 (by omega) (by omega)]
    omega
  rw [eg, ep]
  refine s.storeAll (by simp) (by simp) (one_part _ _ _ _ _ _) fun h13 s => ?_
  have e3 : numR (xs.drop 9) false 1 = (ct9 xs, xs.drop 10, false) := by
    have : (xs.drop 9).length = 119 := by rw [List.length_drop]; omega
    rw [numR, if_pos ⟨rfl, by omega⟩, List.drop_drop]; rfl
  refine (rU8_ok s.up1).mono fun v h15 ⟨hv, s⟩ => ⟨_, hv, ?_⟩
  rw [e3] at s ⊢
  dsimp only at s ⊢
  have hc : ct9 xs < 256 := byte_lt _
  -- the end, where the page is not right
  have bad : ∀ {h' : Heap} {G : List HP}, St h h' (pts b0 0 false [.int .u32 0, .int .i64 0, .int .i64 0, .slice none 0 0] :: G) → decW xs place least = none → ∃ cs18 : Array Value, row h' (Addr.mk b0 0 none) 4 = some cs18 ∧ Told h xs place least (.tuple #[.agg cs18, .bool false]) h' := by
    intro h' G s hd
    refine ⟨_, s.row0 rfl, 0, 0, 0, none, 0, 0, false, [], rfl, hd, by simp, by omega, ?_⟩
    exact (St.nil (F := []) (s.conseq fun _ _ => trivial) 1).new ⟨owns_own, trivial⟩
  have fin : ∀ {h' : Heap} {G : List HP} (p' : Option Addr) (l' c' : Nat) (t : Bool), St h h' (own 1 p' l' c' (bcs (tx9 xs)) :: pts b0 0 false [.int .u32 ((mk9 xs / 4294967296 : Nat) : Int), .int .i64 ((mk9 xs % 4294967296 : Nat) : Int), .int .i64 (kd9 xs), .slice p' l' c'] :: G) →
      decW xs place least = (if t then some (mk9 xs / 4294967296, kd9 xs, tx9 xs) else none) → (tx9 xs).length ≤ 110 →
      ∃ cs18 : Array Value, row h' (Addr.mk b0 0 none) 4 = some cs18 ∧ Told h xs place least (.tuple #[.agg cs18, .bool t]) h' := by
    intro h' G p' l' c' t s hd ht
    exact ⟨_, s.up1.row0 rfl, _, _, _, _, _, _, t, _, rfl, hd, ht, hk, (s.conseq (l' := [own 1 p' l' c' (bcs (tx9 xs))]) fun _ ⟨m1, m2, a, b, c, q, _⟩ => ⟨m1, fun _ _ => none, a, fun _ _ _ h => (by simp at h), fun _ _ _ _ _ h => (by simp at h), q, trivial⟩).new ⟨owns_own, trivial⟩⟩
  rw [br_decide]
  refine ⟨fun hgt => s.up2.storeAll (by simp) (by simp) (one_part _ _ _ _ _ _) fun h17 s => bad s (by rw [decW, if_neg (fun hh => by omega)]), fun hle110 => ?_⟩
  have hc110 : ct9 xs ≤ 110 := by omega
  have hl10 : (xs.drop 10).length = 118 := by rw [List.length_drop]; omega
  have e4 : takeR (xs.drop 10) false (ct9 xs : Int) = (tx9 xs, xs.drop (10 + ct9 xs), false) := by
    rw [takeR, if_pos ⟨rfl, by omega, by omega⟩, List.drop_drop, Int.toNat_natCast]; rfl
  have htx : (tx9 xs).length = ct9 xs := by rw [tx9, List.length_take, List.length_drop]; omega
  refine (rPlain_ok s (ct9 xs : Int)).mono fun v h20 ⟨p21, l22, c23, hv, s⟩ => ⟨p21, l22, c23, hv, ?_⟩
  rw [e4] at s
  dsimp only at s
  refine s.up2.store0 (i := 3) (by simp) rfl fun h24 s => ?_
  simp only [List.set_cons_succ, List.set_cons_zero] at s
  have hw : IntKind.wrap .i64 (110 - (ct9 xs : Int)) = ((110 - ct9 xs : Nat) : Int) := by rw [wrap_i64 (by omega) (by omega)]; omega
  rw [hw]
  have hlr : (xs.drop (10 + ct9 xs)).length = 118 - ct9 xs := by rw [List.length_drop]; omega
  have e5 : takeR (xs.drop (10 + ct9 xs)) false ((110 - ct9 xs : Nat) : Int) = ((xs.drop (10 + ct9 xs)).take (110 - ct9 xs), xs.drop 120, false) := by
    rw [takeR, if_pos ⟨rfl, by omega, by omega⟩, List.drop_drop, Int.toNat_natCast]
    have : 10 + ct9 xs + (110 - ct9 xs) = 120 := by omega
    rw [this]
  generalize hzs : (xs.drop (10 + ct9 xs)).take (110 - ct9 xs) = zs at *
  have hzl : zs.length = 110 - ct9 xs := by rw [← hzs, List.length_take]; omega
  have hdec : decW xs place least = if (∀ x ∈ zs, x = 0) ∧ tl9 xs = mk9 xs ∧ (ct9 xs = 110 ∨ kd9 xs / 2 % 2 = 1) ∧ kd9 xs ≤ 3 ∧ mk9 xs % 4294967296 = place ∧ least ≤ mk9 xs / 4294967296 then some (mk9 xs / 4294967296, kd9 xs, tx9 xs) else none := by
    unfold decW
    rw [hzs]
    simp only [hc110, true_and]
  refine ⟨fun _ h' => (∀ x ∈ zs, x = 0) ∧ St h h' [W r (xs.drop 120) false, own 1 p21 l22 c23 (bcs (tx9 xs)), pts b11 0 false [.int .u32 ((mk9 xs / 4294967296 : Nat) : Int), .int .i64 ((mk9 xs % 4294967296 : Nat) : Int), .int .i64 (kd9 xs), .slice p21 l22 c23], pts b0 0 false [.int .u32 0, .int .i64 0, .int .i64 0, .slice none 0 0]], ?_, ?_⟩
  · refine (rPlain_ok s.up1 _).mono fun v h27 ⟨p28, l29, c30, hv, s⟩ => ⟨p28, l29, c30, hv, ?_⟩
    rw [e5] at s
    dsimp only at s
    have hl29 := s.up1.len.1
    rw [bcs_length, hzl] at hl29
    refine ⟨fun i h' => h' = h27 ∧ ∃ k : Nat, i = k ∧ k ≤ l29 ∧ ∀ j (hj : j < zs.length), j < k → zs[j] = 0, fun i _ => ((l29 : Int) - i).toNat, ⟨rfl, 0, rfl, Nat.zero_le _, fun j _ hj => by omega⟩, ?_⟩
    rintro i h34 ⟨rfl, k, rfl, hk29, hz⟩
    rw [br_decide]
    refine ⟨fun hlt => ⟨by omega, hlt, ?_⟩, fun hge => ?_⟩
    · obtain ⟨a, rfl, hcell⟩ := (bs_own s.up1.at).cell (i := k) (by omega)
      simp only [deref_some, Int.toNat_natCast, Nat.mul_one]
      refine ⟨_, hcell, ?_⟩
      rw [br_bne]
      refine ⟨fun hne => s.up4.storeAll (by simp) (by simp) (one_part _ _ _ _ _ _) fun h17 s => bad s ?_, fun heq => ?_⟩
      · rw [hdec, if_neg]
        rintro ⟨hall, _⟩
        have := hall zs[k] (List.getElem_mem _)
        rw [this] at hne
        exact hne rfl
      · rw [wrap_i64 (by omega) (by omega)]
        refine ⟨⟨by trivial, k + 1, by omega, by omega, fun j hj hjk => ?_⟩, by omega⟩
        by_cases hjk' : j = k
        · subst hjk'
          exact UInt8.toNat_inj.1 (by have : (0 : UInt8).toNat = 0 := rfl
                                      omega)
        · exact hz j hj (by omega)
    · refine ⟨fun x hx => ?_, s.up1.drop.conseq fun _ hh => ?_⟩
      · obtain ⟨j, hj, rfl⟩ := List.mem_iff_getElem.1 hx
        exact hz j hj (by omega)
      · exact star_tail (fun _ hh => star_swap hh) hh
  clear s
  rintro _ h40 ⟨hall, s⟩
  have e6 : numR (xs.drop 120) false 8 = (tl9 xs, [], false) := by
    have ed : (xs.drop 120).length = 8 := by rw [List.length_drop]; omega
    have e : (xs.drop 120).drop 8 = [] := List.drop_of_length_le (by omega)
    rw [numR, if_pos ⟨rfl, by omega⟩, List.take_of_length_le (by omega), e]
    rfl
  refine ⟨fun t h' => t = decide (tl9 xs = mk9 xs) ∧ St h h' [own 1 p21 l22 c23 (bcs (tx9 xs)), pts b11 0 false [.int .u32 ((mk9 xs / 4294967296 : Nat) : Int), .int .i64 ((mk9 xs % 4294967296 : Nat) : Int), .int .i64 (kd9 xs), .slice p21 l22 c23], pts b0 0 false [.int .u32 0, .int .i64 0, .int .i64 0, .slice none 0 0]], ?_, ?_⟩
  · refine (rU64_ok s).mono fun v h43 ⟨hv, s⟩ => ⟨_, hv, ?_⟩
    rw [e6] at s ⊢
    dsimp only at s ⊢
    rw [br_beq]
    refine ⟨fun he => ?_, fun hne => ⟨by rw [decide_eq_false (by omega)], s.drop⟩⟩
    refine (done_ok s.at).mono fun v h46 ⟨hv, hh⟩ => ?_
    subst hh
    exact ⟨Ext.refl _, true, by rw [hv]; rfl, by rw [decide_eq_true (by omega)], s.drop⟩
  clear s
  rintro t48 h49 ⟨rfl, s⟩
  refine ⟨fun t h' => t = decide (ct9 xs = 110 ∨ kd9 xs / 2 % 2 = 1) ∧ St h h' [own 1 p21 l22 c23 (bcs (tx9 xs)), pts b11 0 false [.int .u32 ((mk9 xs / 4294967296 : Nat) : Int), .int .i64 ((mk9 xs % 4294967296 : Nat) : Int), .int .i64 (kd9 xs), .slice p21 l22 c23], pts b0 0 false [.int .u32 0, .int .i64 0, .int .i64 0, .slice none 0 0]], ?_, ?_⟩
  · rw [br_beq]
    refine ⟨fun he => ⟨by rw [decide_eq_true (.inl (by omega))], s⟩, fun hne => ?_⟩
    simp only [add_mk, Nat.zero_add]
    refine ⟨_, s.up1.cell0 (i := 2) rfl, ?_, s⟩
    rw [andI_2 hk, Bool.eq_iff_iff, bne_iff_ne, decide_eq_true_iff]
    omega
  clear s
  rintro t52 h53 ⟨rfl, s⟩
  refine ⟨_, s.up1.row0 rfl, ?_⟩
  have put : ∀ {K : Heap → Prop}, (∀ h', St h h' [own 1 p21 l22 c23 (bcs (tx9 xs)), pts b0 0 false [.int .u32 ((mk9 xs / 4294967296 : Nat) : Int), .int .i64 ((mk9 xs % 4294967296 : Nat) : Int), .int .i64 (kd9 xs), .slice p21 l22 c23], pts b11 0 false [.int .u32 ((mk9 xs / 4294967296 : Nat) : Int), .int .i64 ((mk9 xs % 4294967296 : Nat) : Int), .int .i64 (kd9 xs), .slice p21 l22 c23]] → K h') →
      storeP (some 4) h53 (Addr.mk b0 0 none) (Value.agg [Value.int .u32 ((mk9 xs / 4294967296 : Nat) : Int), .int .i64 ((mk9 xs % 4294967296 : Nat) : Int), .int .i64 (kd9 xs), .slice p21 l22 c23].toArray) K :=
    fun hK => s.up2.storeAll (by simp) (by simp) (one_part _ _ _ _ _ _) fun h' s => hK h' s.up1
  have no : decW xs place least = none → storeP (some 4) h53 (Addr.mk b0 0 none) (Value.agg [Value.int .u32 ((mk9 xs / 4294967296 : Nat) : Int), .int .i64 ((mk9 xs % 4294967296 : Nat) : Int), .int .i64 (kd9 xs), .slice p21 l22 c23].toArray) fun h' =>
      ∃ cs18 : Array Value, row h' (Addr.mk b0 0 none) 4 = some cs18 ∧ Told h xs place least (.tuple #[.agg cs18, .bool false]) h' :=
    fun hd => put fun h' s => fin p21 l22 c23 false s hd (by omega)
  rw [br_decide]
  refine ⟨fun h1 => ?_, fun h1 => ⟨no (by rw [hdec, if_neg (fun hh => h1 hh.2.1)]), no (by rw [hdec, if_neg (fun hh => h1 hh.2.1)])⟩⟩
  rw [br_decide]
  refine ⟨fun h2 => ?_, fun h2 => ⟨no (by rw [hdec, if_neg (fun hh => h2 hh.2.2.1)]), no (by rw [hdec, if_neg (fun hh => h2 hh.2.2.1)])⟩⟩
  simp only [add_mk, Nat.zero_add]
  refine ⟨_, s.up1.cell0 (i := 2) rfl, ?_⟩
  rw [br_decide]
  refine ⟨fun h3 => ⟨_, s.up1.cell0 (i := 1) rfl, ?_⟩, fun h3 => ⟨no (by rw [hdec, if_neg (fun hh => by omega)]), no (by rw [hdec, if_neg (fun hh => by omega)])⟩⟩
  rw [br_beq]
  refine ⟨fun h4 => ?_, fun h4 => ⟨no (by rw [hdec, if_neg (fun hh => by omega)]), no (by rw [hdec, if_neg (fun hh => by omega)])⟩⟩
  have last : decW xs place least = if decide (((mk9 xs / 4294967296 : Nat) : Int) ≥ (least : Int)) = true then some (mk9 xs / 4294967296, kd9 xs, tx9 xs) else none := by
    rw [hdec]
    by_cases h5 : least ≤ mk9 xs / 4294967296
    · rw [if_pos ⟨hall, h1, h2, by omega, by omega, h5⟩, if_pos (decide_eq_true (by omega))]
    · rw [if_neg (fun hh => h5 hh.2.2.2.2.2), if_neg (fun hh => h5 (by have := of_decide_eq_true hh; omega))]
  exact ⟨⟨_, s.up1.cell0 (i := 0) rfl, put fun h' s => fin p21 l22 c23 _ s last (by omega)⟩, put fun h' s => ⟨_, s.up2.cell0 (i := 0) rfl, fin p21 l22 c23 _ s last (by omega)⟩⟩
end
end Go.Proofs.Ytgeoelahfljefaa
