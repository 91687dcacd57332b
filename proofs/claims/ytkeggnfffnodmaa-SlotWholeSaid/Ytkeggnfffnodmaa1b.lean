/- The reader of layer 1: what each of its functions does. Its memory is laid out as a writer's. -/
import Derived.Test.Ytkeggnfffnodmaa1a
set_option linter.unusedVariables false
namespace Go.Proofs.Ytkeggnfffnodmaa
open Go Go.Vc Go.Proofs

/-- The number that bytes stand for. -/
def valB (bs : List UInt8) : Nat := bs.foldl (fun x b => x * 256 + b.toNat) 0
theorem valB_append (xs : List UInt8) (b : UInt8) : valB (xs ++ [b]) = valB xs * 256 + b.toNat := by simp [valB]
theorem valB_take {bs : List UInt8} {k : Nat} (hk : k < bs.length) : valB (bs.take (k + 1)) = valB (bs.take k) * 256 + bs[k].toNat := by
  rw [List.take_succ_eq_append_getElem hk, valB_append]
theorem valB_lt : ∀ (bs : List UInt8), valB bs < 256 ^ bs.length := by
  intro bs
  have key : ∀ k, k ≤ bs.length → valB (bs.take k) < 256 ^ k := by
    intro k
    induction k with
    | zero => intro _; simp [valB]
    | succ k ih =>
      intro hk
      rw [valB_take (by omega), Nat.pow_succ]
      have := ih (by omega)
      have := u8_lt (bs[k]'(by omega))
      omega
  have := key bs.length (Nat.le_refl _)
  rwa [List.take_length] at this
theorem valB_le {bs : List UInt8} {n : Nat} (hn : bs.length ≤ n) : valB bs < 256 ^ n := Nat.lt_of_lt_of_le (valB_lt bs) (Nat.pow_le_pow_right (by omega) hn)
theorem orI_u64 {a b : Nat} (ha : a < 2 ^ 64) (hb : b < 2 ^ 64) : orI .u64 (a : Int) (b : Int) = ((a ||| b : Nat) : Int) := by
  have hb8 : IntKind.u64.bits = 64 := rfl
  unfold orI
  rw [hb8]
  have e : (BitVec.ofInt 64 (a : Int) ||| BitVec.ofInt 64 (b : Int)).toNat = a ||| b := by
    rw [BitVec.ofInt_natCast, BitVec.ofInt_natCast, BitVec.toNat_or, BitVec.toNat_ofNat, BitVec.toNat_ofNat, Nat.mod_eq_of_lt ha, Nat.mod_eq_of_lt hb]
  rw [e, wrap_u64]
  have := Nat.or_lt_two_pow ha hb
  omega
theorem shift8 {x : Nat} (hx : x < 2 ^ 56) {b : Nat} (hb : b < 256) : orI .u64 (shlI .u64 (x : Int) 8) (IntKind.wrap .u64 (b : Int)) = ((x * 256 + b : Nat) : Int) := by
  have e1 : shlI .u64 (x : Int) 8 = ((x * 256 : Nat) : Int) := by
    unfold shlI
    have : (min (8 : Int).toNat IntKind.u64.bits) = 8 := rfl
    rw [this, wrap_u64]
    omega
  have e2 : IntKind.wrap .u64 (b : Int) = (b : Int) := by rw [wrap_u64]; omega
  rw [e1, e2, orI_u64 (by omega) (by omega)]
  congr 1
  have := Nat.shiftLeft_add_eq_or_of_lt (i := 8) (b := b) (by omega) x
  rw [Nat.shiftLeft_eq] at this
  exact this.symm

/-- Bytes taken from the front: they, what is left, whether the reader fails. -/
def takeR (bs : List UInt8) (f : Bool) (n : Int) : List UInt8 × List UInt8 × Bool :=
  if f = false ∧ 0 ≤ n ∧ n ≤ bs.length then (bs.take n.toNat, bs.drop n.toNat, false) else ([], bs, true)
def numR (bs : List UInt8) (f : Bool) (n : Nat) : Nat × List UInt8 × Bool :=
  if f = false ∧ n ≤ bs.length then (valB (bs.take n), bs.drop n, false) else (0, bs, true)
def flagR (bs : List UInt8) (f : Bool) : Bool × List UInt8 × Bool :=
  if f = false ∧ 1 ≤ bs.length ∧ valB (bs.take 1) ≤ 1 then (decide (valB (bs.take 1) = 1), bs.drop 1, false) else (false, bs, true)
def strR (bs : List UInt8) (f : Bool) (most : Int) : List UInt8 × List UInt8 × Bool :=
  if f = false ∧ 2 ≤ bs.length ∧ (valB (bs.take 2) : Int) ≤ most ∧ valB (bs.take 2) ≤ 8192 ∧ valB (bs.take 2) + 2 ≤ bs.length then ((bs.drop 2).take (valB (bs.take 2)), bs.drop (2 + valB (bs.take 2)), false) else ([], bs, true)
def countR (bs : List UInt8) (f : Bool) (most : Int) : Nat × List UInt8 × Bool :=
  if f = false ∧ 2 ≤ bs.length ∧ (valB (bs.take 2) : Int) ≤ most ∧ valB (bs.take 2) ≤ 4096 then (valB (bs.take 2), bs.drop 2, false) else (0, bs, true)

section
variable {h0 h : Heap} {F : List HP} {b : Nat} {bs : List UInt8} {f : Bool}

theorem map_add0 (p : Option Addr) (n : Nat) : (if n = 0 then p else p.map fun a => a.add (0 * 1)) = p := by
  split
  · rfl
  · cases p <;> simp [add_zero]
theorem takes_ok (hs : St h0 h (W b bs f :: F)) (n : Int) :
    CallsH Try.prog n_wire_Reader_takes #[ptr b, .int .i64 n] h fun v h' => ∃ p' l' c', v = .slice p' l' c' ∧ St h0 h' (W b (takeR bs f n).2.1 (takeR bs f n).2.2 :: own 1 p' l' c' (bcs (takeR bs f n).1) :: F) := by
  refine C_wire_Reader_takes (some (Addr.mk b 0 none)) n ?_
  unfold F_wire_Reader_takes
  simp only [Option.isNone_some, br_false, deref_some, add_mk, Nat.zero_add, Nat.add_zero]
  obtain ⟨p, l, c, hs⟩ := W.op hs
  have hlen := hs.up1.len
  rw [bcs_length] at hlen
  refine ⟨f, hs.cell0 rfl, ?_⟩
  have bad : ¬ (f = false ∧ 0 ≤ n ∧ n ≤ bs.length) → storeP none h (Addr.mk b 1 none) (Value.bool true) fun h3 => ∃ p' l' c', Value.slice none 0 0 = .slice p' l' c' ∧ St h0 h3 (W b (takeR bs f n).2.1 (takeR bs f n).2.2 :: own 1 p' l' c' (bcs (takeR bs f n).1) :: F) := by
    intro hno
    refine hs.store0 (by simp) rfl fun h3 hs => ⟨none, 0, 0, rfl, ?_⟩
    unfold takeR
    rw [if_neg hno]
    exact (St.nil (W.cl hs) 1).up1
  cases f
  · refine br_no rfl ?_
    rw [br_decide]
    refine ⟨fun hn => bad (by omega), fun hn => ⟨p, l, c, hs.cell0 rfl, ?_⟩⟩
    rw [br_decide]
    refine ⟨fun hn2 => bad (by omega), fun hn2 => ⟨p, l, c, hs.cell0 rfl, ?_⟩⟩
    obtain ⟨n, rfl⟩ : ∃ k : Nat, n = k := ⟨n.toNat, by omega⟩
    refine ⟨by omega, by omega, by omega, by omega, p, l, c, hs.cell0 rfl, by omega, by omega, by omega, by omega, ?_⟩
    have hs2 := own_split (n := n) (by omega) hs.up1
    simp only [Int.toNat_natCast, Int.toNat_zero, Nat.sub_zero] 
    rw [map_add0]
    refine hs2.up2.store0 (by simp) rfl fun h25 hs => ⟨p, n, n, rfl, ?_⟩
    unfold takeR
    rw [if_pos ⟨rfl, by omega, by omega⟩]
    simp only [Int.toNat_natCast, Nat.mul_one, bcs_take] at hs ⊢
    refine W.cl (p := if c = n then p else p.map fun a => a.add n) (l := l - n) (c := c - n) ?_
    rw [bcs_drop]
    exact hs.up2.up1
  · refine br_yes rfl ⟨none, 0, 0, rfl, ?_⟩
    unfold takeR
    rw [if_neg (by simp)]
    exact (St.nil (W.cl hs) 1).up1

theorem peek_ok (hw : At h (W b bs f)) (n : Nat) (hn : n ≤ 8) :
    CallsH Try.prog n_wire_Reader_peek #[ptr b, .int .i64 n] h fun v h' => v = .tuple #[.int .u64 (numR bs f n).1, .bool (decide (f = false ∧ n ≤ bs.length))] ∧ h' = h := by
  refine C_wire_Reader_peek (some (Addr.mk b 0 none)) n ?_
  unfold F_wire_Reader_peek
  simp only [Option.isNone_some, br_false, deref_some, add_mk, Nat.zero_add, Nat.add_zero]
  obtain ⟨p, l, c, h1, h2⟩ := W.at hw
  refine ⟨f, pts_cell h1 (i := 1) rfl, ?_⟩
  cases f
  · refine br_no rfl ⟨p, l, c, pts_cell h1 (i := 0) rfl, ?_⟩
    have hl := h2.1
    rw [br_decide]
    refine ⟨fun hlt => ⟨?_, by trivial⟩, fun hge => ⟨p, l, c, pts_cell h1 (i := 0) rfl, by omega, by omega, ?_, by omega, ?_⟩⟩
    · rw [numR, if_neg (by omega), decide_eq_false (by omega)]; rfl
    · have hc : l ≤ c := by
        obtain ⟨m, s, p', l', c', m1, m2, a1, a2, _, q1, m3, m4, b1, b2, _, q2, _⟩ := hw
        have h3 := pts_cell (h := h) ⟨m1, s.le a1, q1⟩ (i := 0) rfl
        have h4 := pts_cell h1 (i := 0) rfl
        rw [h3] at h4
        cases h4
        exact q2.2.1
      omega
    · simp only [Int.toNat_natCast, Int.toNat_zero, Nat.sub_zero]
      have hp : (if c = 0 then p else p.map fun a => a.add (0 * 1)) = p := map_add0 p c
      rw [hp]
      refine ⟨fun t h' => h' = h ∧ ∃ k : Nat, t.2 = k ∧ k ≤ n ∧ t.1 = ((valB (bs.take k) : Nat) : Int), fun t _ => n - t.2.toNat, ⟨by trivial, 0, rfl, by omega, by simp [valB]⟩, ?_⟩
      rintro ⟨x, i⟩ h16 ⟨rfl, k, hi, hk, hx⟩
      simp only at hi hx ⊢
      subst hi; subst hx
      rw [br_decide]
      refine ⟨fun hlt => ⟨by omega, hlt, ?_⟩, fun hge => ⟨?_, by trivial⟩⟩
      · obtain ⟨a, rfl, hcell⟩ := h2.cell (i := k) (by omega)
        refine ⟨_, by simpa [bv] using hcell, by omega, ?_⟩
        have hv : valB (bs.take k) < 2 ^ 56 := by
          have := valB_le (bs := bs.take k) (n := 7) (by simp; omega)
          exact Nat.lt_of_lt_of_le this (by decide)
        rw [shift8 hv (u8_lt _), ← valB_take (by omega), wrap_i64 (by omega) (by omega)]
        exact ⟨⟨by trivial, k + 1, by omega, by omega, rfl⟩, by show n - ((k : Int) + 1).toNat < n - (k : Int).toNat; omega⟩
      · have : k = n := by omega
        subst this
        have hd : decide (false = false ∧ k ≤ bs.length) = true := decide_eq_true ⟨rfl, by omega⟩
        simp only [true_and] at hd ⊢
        rw [numR, if_pos ⟨rfl, by omega⟩, hd]
  · refine br_yes rfl ⟨?_, by trivial⟩
    rw [numR, if_neg (by simp), decide_eq_false (by simp)]; rfl

theorem takeR_num (bs : List UInt8) (f : Bool) (n : Nat) : (takeR bs f n).2 = (numR bs f n).2 := by
  unfold takeR numR
  by_cases hc : f = false ∧ n ≤ bs.length
  · rw [if_pos (show f = false ∧ (0 : Int) ≤ (n : Int) ∧ (n : Int) ≤ (bs.length : Int) from ⟨hc.1, Int.natCast_nonneg _, Int.ofNat_le.2 hc.2⟩), if_pos hc]; rfl
  · rw [if_neg (fun hh => hc ⟨hh.1, Int.ofNat_le.1 hh.2.2⟩), if_neg hc]
theorem number_ok (hs : St h0 h (W b bs f :: F)) (n : Nat) (hn : n ≤ 8) :
    CallsH Try.prog n_wire_Reader_number #[ptr b, .int .i64 n] h fun v h' => v = .int .u64 (numR bs f n).1 ∧ St h0 h' (W b (numR bs f n).2.1 (numR bs f n).2.2 :: F) := by
  refine C_wire_Reader_number (some (Addr.mk b 0 none)) n ?_
  unfold F_wire_Reader_number
  refine (peek_ok hs.at n hn).mono fun v h1 ⟨hv, hh⟩ => ?_
  subst hh
  refine ⟨Ext.refl _, _, _, hv, (takes_ok hs n).mono fun v h5 ⟨p', l', c', hv, hs⟩ => ⟨p', l', c', hv, ?_⟩⟩
  rw [takeR_num] at hs
  have hs := hs.up1.drop
  by_cases hc : f = false ∧ n ≤ bs.length
  · exact br_no (by simp [hc]) ⟨rfl, hs⟩
  · refine br_yes (by simp only [decide_eq_false hc]; rfl) ⟨?_, hs⟩
    rw [numR, if_neg hc]; rfl
theorem numR_lt (bs : List UInt8) (f : Bool) (n : Nat) : (numR bs f n).1 < 256 ^ n := by
  unfold numR
  split
  · exact valB_le (by simp; omega)
  · exact Nat.pow_pos (by omega)
theorem spoil_ok (hs : St h0 h (W b bs f :: F)) : CallsH Try.prog n_wire_Reader_spoil #[ptr b] h fun v h' => v = unit ∧ St h0 h' (W b bs true :: F) := by
  refine C_wire_Reader_spoil (some (Addr.mk b 0 none)) ?_
  unfold F_wire_Reader_spoil
  simp only [Option.isNone_some, Bool.not_false, br_true, deref_some, Nat.zero_add]
  obtain ⟨p, l, c, hs⟩ := W.op hs
  exact hs.store0 (by simp) rfl fun h1 hs => ⟨by trivial, W.cl hs⟩
theorem rU64_ok (hs : St h0 h (W b bs f :: F)) : CallsH Try.prog n_wire_Reader_U64 #[ptr b] h fun v h' => v = .int .u64 (numR bs f 8).1 ∧ St h0 h' (W b (numR bs f 8).2.1 (numR bs f 8).2.2 :: F) := by
  refine C_wire_Reader_U64 (some (Addr.mk b 0 none)) ?_
  unfold F_wire_Reader_U64
  exact (number_ok hs 8 (by omega)).mono fun v h1 ⟨hv, hs⟩ => ⟨_, hv, rfl, hs⟩
theorem numR_true (bs : List UInt8) (n : Nat) : numR bs true n = (0, bs, true) := by unfold numR; rw [if_neg (by simp)]
theorem rPlain_ok (hs : St h0 h (W b bs f :: F)) (n : Int) :
    CallsH Try.prog n_wire_Reader_Plain #[ptr b, .int .i64 n] h fun v h' => ∃ p' l' c', v = .slice p' l' c' ∧ St h0 h' (W b (takeR bs f n).2.1 (takeR bs f n).2.2 :: own 1 p' l' c' (bcs (takeR bs f n).1) :: F) := by
  refine C_wire_Reader_Plain (some (Addr.mk b 0 none)) n ?_
  unfold F_wire_Reader_Plain
  exact (takes_ok hs n).mono fun v h' ⟨p', l', c', hv, hh⟩ => ⟨p', l', c', hv, p', l', c', rfl, hh⟩
theorem left_ok (hw : At h (W b bs f)) : CallsH Try.prog n_wire_Reader_Left #[ptr b] h fun v h' => v = .int .i64 (bs.length : Nat) ∧ h' = h := by
  refine C_wire_Reader_Left (some (Addr.mk b 0 none)) ?_
  unfold F_wire_Reader_Left
  simp only [Option.isNone_some, br_false, deref_some, add_mk, Nat.add_zero]
  obtain ⟨p, l, c, h1, h2⟩ := W.at hw
  exact ⟨p, l, c, pts_cell h1 (i := 0) rfl, by rw [h2.1], by trivial⟩
theorem fails_ok (hw : At h (W b bs f)) : CallsH Try.prog n_wire_Reader_Fails #[ptr b] h fun v h' => v = .bool f ∧ h' = h := by
  refine C_wire_Reader_Fails (some (Addr.mk b 0 none)) ?_
  unfold F_wire_Reader_Fails
  simp only [Option.isNone_some, br_false, deref_some, add_mk, Nat.zero_add]
  obtain ⟨p, l, c, h1, h2⟩ := W.at hw
  exact ⟨f, pts_cell h1 (i := 1) rfl, by trivial, by trivial⟩
theorem done_ok (hw : At h (W b bs f)) : CallsH Try.prog n_wire_Reader_Done #[ptr b] h fun v h' => v = .bool (decide (f = false ∧ bs = [])) ∧ h' = h := by
  refine C_wire_Reader_Done (some (Addr.mk b 0 none)) ?_
  unfold F_wire_Reader_Done
  refine (fails_ok hw).mono fun v h1 ⟨hv, hh⟩ => ?_
  subst hh
  refine ⟨Ext.refl _, _, hv, ?_⟩
  cases f
  · refine br_yes rfl ((left_ok hw).mono fun v h4 ⟨hv, hh⟩ => ?_)
    subst hh
    refine ⟨Ext.refl _, _, hv, ?_, rfl⟩
    congr 1
    rw [Bool.eq_iff_iff, beq_iff_eq, decide_eq_true_iff]
    constructor
    · intro e; exact ⟨rfl, List.eq_nil_of_length_eq_zero (by omega)⟩
    · rintro ⟨_, rfl⟩; rfl
  · exact br_no rfl ⟨by simp, rfl⟩
theorem rString_ok (hs : St h0 h (W b bs f :: F)) (most : Int) :
    CallsH Try.prog n_wire_Reader_String #[ptr b, .int .i64 most] h fun v h' => ∃ p' l' c', v = .slice p' l' c' ∧ St h0 h' (W b (strR bs f most).2.1 (strR bs f most).2.2 :: own 1 p' l' c' (bcs (strR bs f most).1) :: F) := by
  refine C_wire_Reader_String (some (Addr.mk b 0 none)) most ?_
  unfold F_wire_Reader_String
  have bad : ¬ (f = false ∧ 2 ≤ bs.length ∧ (valB (bs.take 2) : Int) ≤ most ∧ valB (bs.take 2) ≤ 8192 ∧ valB (bs.take 2) + 2 ≤ bs.length) →
      CallsH Try.prog n_wire_Reader_spoil #[ptr b] h fun v4 h5 => v4 = unit ∧ ∃ p' l' c', Value.slice none 0 0 = .slice p' l' c' ∧ St h0 h5 (W b (strR bs f most).2.1 (strR bs f most).2.2 :: own 1 p' l' c' (bcs (strR bs f most).1) :: F) := by
    intro hno
    refine (spoil_ok hs).mono fun v h5 ⟨hv, hs⟩ => ⟨hv, none, 0, 0, rfl, ?_⟩
    rw [strR, if_neg hno]
    exact (hs.nil 1).up1
  refine (peek_ok hs.at 2 (by omega)).mono fun v h1 ⟨hv, hh⟩ => ?_
  subst hh
  refine ⟨Ext.refl _, _, _, hv, ?_⟩
  by_cases hc : f = false ∧ 2 ≤ bs.length
  · refine br_no (by simp [hc]) ?_
    have en : (numR bs f 2).1 = valB (bs.take 2) := by rw [numR, if_pos hc]
    have hlt : valB (bs.take 2) < 65536 := valB_le (n := 2) (by simp; omega)
    have hmax := W.len hs
    unfold maxLen at hmax
    rw [en, wrap_i64 (by omega) (by omega)]
    rw [br_decide]
    refine ⟨fun hgt => bad (by omega), fun hle => ?_⟩
    rw [br_decide]
    refine ⟨fun hgt => bad (by omega), fun hle2 => (left_ok hs.at).mono fun v h11 ⟨hv, hh⟩ => ?_⟩
    subst hh
    refine ⟨Ext.refl _, _, hv, ?_⟩
    rw [wrap_i64 (by omega) (by omega), br_decide]
    refine ⟨fun hgt => bad (by omega), fun hle3 => (number_ok hs 2 (by omega)).mono fun v h16 ⟨hv, hs⟩ => ⟨_, hv, (takes_ok hs _).mono fun v h19 ⟨p', l', c', hv, hs⟩ => ⟨p', l', c', hv, p', l', c', rfl, ?_⟩⟩⟩
    rw [strR, if_pos ⟨hc.1, hc.2, by omega, by omega, by omega⟩]
    rw [numR, if_pos hc] at hs
    simp only [takeR, List.length_drop, Int.toNat_natCast] at hs
    rw [if_pos ⟨trivial, by omega, by omega⟩] at hs
    simp only [List.drop_drop] at hs
    exact hs
  · exact br_yes (by simp only [decide_eq_false hc]; rfl) (bad fun hh => hc ⟨hh.1, hh.2.1⟩)
theorem rdr_ok {p : Option Addr} {l c : Nat} {xs : List UInt8} (hx : Bs h p l xs) (hl : l ≤ 70368744177664) :
    CallsH Try.prog n_wire_New #[.slice p l c] h fun v h' => ∃ b, v = ptr b ∧ New h h' [W b xs false] := by
  refine C_wire_New p l c ?_
  unfold F_wire_New
  refine (clone_ok hx hl).mono fun v h1 ⟨p', l', c', hv, n⟩ => ⟨n.ext, p', l', c', hv, n.st.newBlk fun b h2 hb s e => ⟨b, rfl, (W.cl s).new ⟨owns_W, trivial⟩⟩⟩
end
end Go.Proofs.Ytkeggnfffnodmaa
