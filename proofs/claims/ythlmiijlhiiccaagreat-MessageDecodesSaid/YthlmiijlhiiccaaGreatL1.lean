/- Bytes are copied, bytes are held against each other. -/
import Derived.Test.YthlmiijlhiiccaaGreatFa
import Derived.Test.YthlmiijlhiiccaaGreatS
set_option linter.unusedVariables false
namespace Go.Proofs.YthlmiijlhiiccaaGreat
open Go Go.Vc Go.Proofs
abbrev ptr (b : Nat) : Value := .pointer (some (Addr.mk b 0 none))
abbrev unit : Value := .tuple #[]
theorem clone_ok {h : Heap} {p : Option Addr} {l c : Nat} {xs : List UInt8} (hx : Bs h p l xs) (hl : l ≤ 70368744177664) :
    CallsH Tryz.prog n_slices_Clone_byte_byte #[.slice p l c] h fun v h' => ∃ p' l' c', v = .slice p' l' c' ∧ New h h' [own 1 p' l' c' (bcs xs)] := by
  refine C_slices_Clone_byte_byte p l c ?_
  unfold F_slices_Clone_byte_byte
  cases p with
  | none =>
    refine br_yes rfl ⟨none, 0, 0, rfl, ?_⟩
    have hz := hx.2.2
    simp [src] at hz
    subst hz
    exact ((St.start h).nil 1).new ⟨owns_own, trivial⟩
  | some a =>
    refine br_no rfl ((St.start h).newBlk fun b h1 hb s e => ?_)
    have s0 : St h h1 [own 1 (some (Addr.mk b 0 none)) 0 0 []] := s.impl fun m q => ⟨rfl, Nat.le_refl _, Nat.zero_le _, .inr ⟨b, 0, [], rfl, rfl, q⟩⟩
    refine s0.append (hx.2.ext e) (bvs_one xs) rfl (by omega) (by unfold maxLen; omega) fun p' c' h' s _ => ?_
    refine ⟨p', 0 + l, c', rfl, s.new ⟨owns_own, trivial⟩⟩
theorem same_ok {h : Heap} {p q : Option Addr} {l m c d : Nat} {xs ys : List UInt8} (hx : Bs h p l xs) (hy : Bs h q m ys) (hl : l ≤ 70368744177664) :
    CallsH Tryz.prog n_ref01_Same #[.slice p l c, .slice q m d] h fun v h' => v = .bool (decide (xs = ys)) ∧ h' = h := by
  refine C_ref01_Same p l c q m d ?_
  unfold F_ref01_Same
  have hxl := hx.1
  have hyl := hy.1
  rw [br_bne]
  refine ⟨fun hne => ⟨by rw [decide_eq_false]; intro e; subst e; omega, by trivial⟩, fun he => ?_⟩
  refine ⟨fun n h' => ∃ i : Nat, n = i ∧ i ≤ l ∧ h' = h ∧ xs.take i = ys.take i, fun n _ => l - n.toNat, ⟨0, rfl, Nat.zero_le _, rfl, by simp⟩, ?_⟩
  rintro n h' ⟨i, rfl, hi, rfl, ht⟩
  rw [br_decide]
  refine ⟨fun hlt => ⟨by omega, hlt, ?_⟩, fun hge => ?_⟩
  · have hi1 : i < xs.length := by omega
    have hi2 : i < ys.length := by omega
    obtain ⟨a, rfl, hc⟩ := hx.cell hi1
    obtain ⟨a', rfl, hc'⟩ := hy.cell hi2
    simp only [deref_some, Nat.mul_one, Int.toNat_natCast]
    refine ⟨_, hc, by omega, by omega, _, hc', ?_⟩
    rw [br_bne]
    refine ⟨fun hne => ⟨?_, by trivial⟩, fun heq => ⟨⟨i + 1, by rw [wrap_i64 (by omega) (by omega)]; omega, by omega, by trivial, ?_⟩, by rw [wrap_i64 (by omega) (by omega)]; omega⟩⟩
    · rw [decide_eq_false]
      intro e
      subst e
      exact hne rfl
    · rw [List.take_succ_eq_append_getElem hi1, List.take_succ_eq_append_getElem hi2, ht]
      congr 2
      exact UInt8.toNat_inj.1 (by omega)
  · refine ⟨?_, rfl⟩
    have : i = l := by omega
    subst this
    rw [List.take_of_length_le (by omega), List.take_of_length_le (by omega)] at ht
    simp [ht]

end Go.Proofs.YthlmiijlhiiccaaGreat
/- The writer of layer 1: what each of its functions does to the part of memory that it owns. -/
set_option linter.unusedVariables false
namespace Go.Proofs.YthlmiijlhiiccaaGreat
open Go Go.Vc Go.Proofs

/-- A writer at block b: what was put, and whether it is spoiled. -/
def W (b : Nat) (bs : List UInt8) (sp : Bool) : HP := fun m => ∃ p l c, star [pts b 0 false [.slice p l c, .bool sp], own 1 p l c (bcs bs)] m
theorem W.op {h0 h : Heap} {F : List HP} {b : Nat} {bs : List UInt8} {sp : Bool} (hs : St h0 h (W b bs sp :: F)) : ∃ p l c, St h0 h (pts b 0 false [.slice p l c, .bool sp] :: own 1 p l c (bcs bs) :: F) := by
  obtain ⟨e, m, ⟨m1, m2, a, b', c', ⟨p, l, c, q⟩, s⟩, t, u⟩ := hs
  exact ⟨p, l, c, e, m, star_flat ⟨m1, m2, a, b', c', q, s⟩, t, u⟩
theorem W.cl {h0 h : Heap} {F : List HP} {b : Nat} {bs : List UInt8} {sp : Bool} {p : Option Addr} {l c : Nat} (hs : St h0 h (pts b 0 false [.slice p l c, .bool sp] :: own 1 p l c (bcs bs) :: F)) : St h0 h (W b bs sp :: F) :=
  (St.pack (l := [_, _]) hs).impl fun m q => ⟨p, l, c, q⟩
theorem W.at {h : Heap} {b : Nat} {bs : List UInt8} {sp : Bool} (a : At h (W b bs sp)) : ∃ p l c, At h (pts b 0 false [.slice p l c, .bool sp]) ∧ Bs h p l bs := by
  obtain ⟨m, s, p, l, c, m1, m2, a1, a2, c', q1, m3, m4, b1, b2, c'', q2, _⟩ := a
  exact ⟨p, l, c, ⟨m1, s.le a1, q1⟩, bs_own (c := c) ⟨m3, s.le (b1.trans a2), q2⟩⟩
theorem owns_W {b : Nat} {bs : List UInt8} {sp : Bool} : Owns (W b bs sp) := fun m ⟨p, l, c, q⟩ => ⟨p, l, c, owns_star (l := [_, _]) ⟨owns_pts, owns_own, trivial⟩ m q⟩
theorem W.len {h0 h : Heap} {F : List HP} {b : Nat} {bs : List UInt8} {sp : Bool} (hs : St h0 h (W b bs sp :: F)) : bs.length ≤ maxLen := by
  obtain ⟨p, l, c, hs⟩ := W.op hs
  have := hs.up1.len
  rw [bcs_length] at this
  omega


/-- A digit of a number, by the power of 256. -/
def dg (x : Nat) (i : Nat) : UInt8 := UInt8.ofNat (x / 256 ^ i)
/-- A number in n bytes, the most significant first. -/
def numB (x : Nat) : Nat → List UInt8
  | 0 => []
  | n + 1 => dg x n :: numB x n
theorem numB_length (x : Nat) : ∀ n, (numB x n).length = n
  | 0 => rfl
  | n + 1 => by simp [numB, numB_length x n]
theorem shift_byte (x k : Nat) (hk : k ≤ 7) : Value.int .u8 (IntKind.wrap .u8 (shrI .u64 (x : Int) (IntKind.wrap .i64 ((8 : Int) * (k : Int))))) = bv (dg x k) := by
  rw [wrap_i64 (by omega) (by omega), wrap_u8, dg, byte_of_int]
  congr 1
  have e : ((8 : Int) * (k : Int)) = ((8 * k : Nat) : Int) := by omega
  rw [e, shrI_nat _ _ _ (show 8 * k ≤ 64 by omega), show (256 : Nat) = 2 ^ 8 from rfl, ← Nat.pow_mul]
  omega

/-- What a put does: nothing once spoiled; else the bytes, or it is spoiled. -/
def putS (bs : List UInt8) (sp : Bool) (o : Option (List UInt8)) : List UInt8 × Bool :=
  match sp, o with
  | false, some xs => (bs ++ xs, false)
  | _, _ => (bs, true)
/-- Memory behind a put. -/
def Put (h0 : Heap) (F : List HP) (b : Nat) (bs : List UInt8) (sp : Bool) (o : Option (List UInt8)) (v : Value) (h' : Heap) : Prop :=
  v = unit ∧ St h0 h' (W b (putS bs sp o).1 (putS bs sp o).2 :: F)

section
variable {h0 h : Heap} {F : List HP} {b : Nat} {bs : List UInt8} {sp : Bool}

theorem number_put (hs : St h0 h (W b bs sp :: F)) (x n : Nat) (hn : n ≤ 8) (hl : bs.length + n ≤ 70368744177664) :
    CallsH Tryz.prog n_wire_Writer_number #[ptr b, .int .u64 x, .int .i64 n] h (Put h0 F b bs sp (some (numB x n))) := by
  refine C_wire_Writer_number (some (Addr.mk b 0 none)) x n ?_
  unfold F_wire_Writer_number
  simp only [Option.isNone_some, br_false, deref_some, add_mk, Nat.add_zero, Nat.zero_add]
  obtain ⟨p, l, c, hs⟩ := W.op hs
  refine ⟨sp, hs.cell0 rfl, ?_⟩
  cases sp
  · refine br_no rfl ⟨fun i h' => ∃ (k : Nat) (dn : List UInt8), i = (k : Int) - 1 ∧ k ≤ n ∧ dn ++ numB x k = numB x n ∧ St h0 h' (W b (bs ++ dn) false :: F), fun i _ => (i + 1).toNat, ⟨n, [], ?_, Nat.le_refl _, rfl, ?_⟩, ?_⟩
    · rw [wrap_i64 (by omega) (by omega)]
    · rw [List.append_nil]; exact W.cl hs
    intro i h5 hI
    obtain ⟨k, dn, hi, hk, hdn, hs⟩ := hI
    subst hi
    rw [br_decide]
    refine ⟨fun hge => ?_, fun hlt => ?_⟩
    · obtain ⟨k, rfl⟩ : ∃ j, k = j + 1 := ⟨k - 1, by omega⟩
      have ek : ((k + 1 : Nat) : Int) - 1 = (k : Int) := by omega
      rw [ek]
      obtain ⟨p, l, c, hs⟩ := W.op hs
      refine ⟨p, l, c, hs.cell0 rfl, by rw [wrap_i64 (by omega) (by omega)]; omega, ?_⟩
      rw [shift_byte x k (by omega)]
      have hlen := hs.up1.len
      rw [bcs_length, List.length_append] at hlen
      have hdl : dn.length + (k + 1) = n := by
        have := congrArg List.length hdn
        simpa [numB_length] using this
      refine hs.newBlk fun b6 h6 _ hs e6 => ?_
      refine St.append (xs := [bv (dg x k)]) hs.up2 ⟨rfl, by simp only [src, Nat.one_mul]; exact hs.row0 rfl⟩ (by simp [bv_one]) rfl (by omega) (by unfold maxLen; omega) fun p' c' h7 hs _ => ?_
      refine hs.up2.store0 (by simp) rfl fun h8 hs => ?_
      rw [wrap_i64 (by omega) (by omega)]
      refine ⟨⟨k, dn ++ [dg x k], rfl, by omega, by rw [← hdn, numB]; simp, W.cl (p := p') (l := l + 1) (c := c') ?_⟩, by show ((k : Int) - 1 + 1).toNat < ((k : Int) + 1).toNat; omega⟩
      have e : bcs (bs ++ (dn ++ [dg x k])) = bcs (bs ++ dn) ++ [bv (dg x k)] := by simp [bcs, bv]
      rw [e]
      exact hs.up2.drop
    · have : k = 0 := by omega
      subst this
      simp only [numB, List.append_nil] at hdn
      subst hdn
      exact ⟨rfl, hs⟩
  · exact br_yes rfl ⟨rfl, W.cl hs⟩

theorem within_put (hs : St h0 h (W b bs sp :: F)) (x m : Int) :
    CallsH Tryz.prog n_wire_Writer_within #[ptr b, .int .i64 x, .int .i64 m] h fun v h' => v = .bool (!(sp || decide (x < 0 ∨ m < x))) ∧ St h0 h' (W b bs (sp || decide (x < 0 ∨ m < x)) :: F) := by
  refine C_wire_Writer_within (some (Addr.mk b 0 none)) x m ?_
  unfold F_wire_Writer_within
  simp only [Option.isNone_some, br_false, deref_some, add_mk, Nat.zero_add]
  obtain ⟨p, l, c, hs⟩ := W.op hs
  have bad : ∀ (hx : x < 0 ∨ m < x), storeP none h (Addr.mk b 1 none) (Value.bool true) fun h1 =>
      ∃ t3, cell h1 (Addr.mk b 1 none) = some (Value.bool t3) ∧ (Value.bool (!t3) = Value.bool (!(sp || decide (x < 0 ∨ m < x))) ∧ St h0 h1 (W b bs (sp || decide (x < 0 ∨ m < x)) :: F)) := by
    intro hx
    refine hs.store0 (by simp) rfl fun h5 hs => ⟨true, hs.cell0 rfl, ?_⟩
    have hd : decide (x < 0 ∨ m < x) = true := by simpa using hx
    rw [hd, Bool.or_true]
    exact ⟨rfl, W.cl hs⟩
  rw [br_decide]
  refine ⟨fun hx => bad (.inl hx), fun hx => ?_⟩
  rw [br_decide]
  refine ⟨fun hx => bad (.inr hx), fun hx' => ?_⟩
  have hd : decide (x < 0 ∨ m < x) = false := by simp; omega
  rw [hd, Bool.or_false]
  exact ⟨sp, hs.cell0 rfl, rfl, W.cl hs⟩

/-- A number that must lie within a bound. -/
theorem bounded_put (hs : St h0 h (W b bs sp :: F)) (x : Int) (m : Nat) (n : Nat) (hn : n ≤ 8) (hl : bs.length + n ≤ 70368744177664) (hm : m < 18446744073709551616)
    {R : Value → Heap → Prop} (hR : ∀ v h', Put h0 F b bs sp (if 0 ≤ x ∧ x ≤ m then some (numB x.toNat n) else none) v h' → R v h') :
    CallsH Tryz.prog n_wire_Writer_within #[ptr b, .int .i64 x, .int .i64 m] h fun v0 h1 => ∃ t2, v0 = .bool t2 ∧
      br t2 (CallsH Tryz.prog n_wire_Writer_number #[ptr b, .int .u64 (IntKind.wrap .u64 x), .int .i64 n] h1 fun v3 h4 => v3 = unit ∧ R unit h4) (R unit h1) := by
  refine (within_put hs x m).mono fun v h1 ⟨hv, hs1⟩ => ⟨_, hv, ?_⟩
  clear hs
  have hs := hs1
  clear hs1
  by_cases hx : 0 ≤ x ∧ x ≤ m
  · have hd : decide (x < 0 ∨ (m : Int) < x) = false := by simp; omega
    rw [hd, Bool.or_false] at hs ⊢
    have hxw : IntKind.wrap .u64 x = (x.toNat : Int) := by rw [wrap_u64, Int.emod_eq_of_lt hx.1 (by omega)]; omega
    rw [hxw]
    cases sp
    · exact br_yes rfl ((number_put hs x.toNat n hn hl).mono fun v h4 ⟨hv, hs⟩ => ⟨hv, hR _ _ ⟨rfl, by rw [if_pos hx]; exact hs⟩⟩)
    · exact br_no rfl (hR _ _ ⟨rfl, by rw [if_pos hx]; exact hs⟩)
  · have hd : decide (x < 0 ∨ (m : Int) < x) = true := by simp; omega
    rw [hd, Bool.or_true] at hs ⊢
    refine br_no rfl (hR _ _ ⟨rfl, ?_⟩)
    rw [if_neg hx]
    cases sp <;> exact hs

theorem u8_put (hs : St h0 h (W b bs sp :: F)) (x : Int) (hl : bs.length + 1 ≤ 70368744177664) :
    CallsH Tryz.prog n_wire_Writer_U8 #[ptr b, .int .i64 x] h (Put h0 F b bs sp (if 0 ≤ x ∧ x ≤ 255 then some (numB x.toNat 1) else none)) :=
  C_wire_Writer_U8 (some (Addr.mk b 0 none)) x (bounded_put hs x 255 1 (by omega) hl (by omega) fun _ _ h => h)
theorem u16_put (hs : St h0 h (W b bs sp :: F)) (x : Int) (hl : bs.length + 2 ≤ 70368744177664) :
    CallsH Tryz.prog n_wire_Writer_U16 #[ptr b, .int .i64 x] h (Put h0 F b bs sp (if 0 ≤ x ∧ x ≤ 65535 then some (numB x.toNat 2) else none)) :=
  C_wire_Writer_U16 (some (Addr.mk b 0 none)) x (bounded_put hs x 65535 2 (by omega) hl (by omega) fun _ _ h => h)
theorem count_put (hs : St h0 h (W b bs sp :: F)) (x : Int) (hl : bs.length + 2 ≤ 70368744177664) :
    CallsH Tryz.prog n_wire_Writer_Count #[ptr b, .int .i64 x] h (Put h0 F b bs sp (if 0 ≤ x ∧ x ≤ 4096 then some (numB x.toNat 2) else none)) :=
  C_wire_Writer_Count (some (Addr.mk b 0 none)) x (bounded_put hs x 4096 2 (by omega) hl (by omega) fun _ _ h => h)
theorem u32_put (hs : St h0 h (W b bs sp :: F)) (x : Nat) (hx : x < 4294967296) (hl : bs.length + 4 ≤ 70368744177664) :
    CallsH Tryz.prog n_wire_Writer_U32 #[ptr b, .int .u32 x] h (Put h0 F b bs sp (some (numB x 4))) := by
  refine C_wire_Writer_U32 (some (Addr.mk b 0 none)) x ?_
  unfold F_wire_Writer_U32
  have hxw : IntKind.wrap .u64 (x : Int) = (x : Int) := by rw [wrap_u64, Int.emod_eq_of_lt (by omega) (by omega)]
  rw [hxw]
  exact (number_put hs x 4 (by omega) hl).mono fun v h' hh => ⟨hh.1, rfl, hh.2⟩
theorem flag_put (hs : St h0 h (W b bs sp :: F)) (t : Bool) (hl : bs.length + 1 ≤ 70368744177664) :
    CallsH Tryz.prog n_wire_Writer_Flag #[ptr b, .bool t] h (Put h0 F b bs sp (some (numB (if t then 1 else 0) 1))) := by
  refine C_wire_Writer_Flag (some (Addr.mk b 0 none)) t ?_
  unfold F_wire_Writer_Flag
  cases t
  · exact br_no rfl ((number_put hs 0 1 (by omega) hl).mono fun v h' hh => ⟨hh.1, rfl, hh.2⟩)
  · exact br_yes rfl ((number_put hs 1 1 (by omega) hl).mono fun v h' hh => ⟨hh.1, rfl, hh.2⟩)
theorem plain_put {xs : List UInt8} {p : Option Addr} {l c : Nat} (hs : St h0 h (W b bs sp :: F)) (hx : Bs h p l xs) (hl : bs.length + xs.length ≤ 70368744177664) :
    CallsH Tryz.prog n_wire_Writer_Plain #[ptr b, .slice p l c] h (Put h0 F b bs sp (some xs)) := by
  refine C_wire_Writer_Plain (some (Addr.mk b 0 none)) p l c ?_
  unfold F_wire_Writer_Plain
  simp only [Option.isNone_some, Bool.not_false, br_true, deref_some, add_mk, Nat.zero_add, Nat.add_zero]
  obtain ⟨q, ql, qc, hs⟩ := W.op hs
  refine ⟨sp, hs.cell0 rfl, ?_⟩
  rw [br_not]
  cases sp
  · refine br_no rfl ⟨q, ql, qc, hs.cell0 rfl, ?_⟩
    have hlen := hs.up1.len
    rw [bcs_length] at hlen
    have hxl := hx.1
    refine hs.up1.append hx.2 (bvs_one xs) rfl (by omega) (by unfold maxLen; omega) fun p' c' h7 hs _ => ?_
    refine hs.up1.store0 (by simp) rfl fun h8 hs => ⟨rfl, W.cl (p := p') (l := ql + l) (c := c') ?_⟩
    have e : bcs (bs ++ xs) = bcs bs ++ xs.map bv := bcs_append bs xs
    simp only [putS, e]
    exact hs
  · exact br_yes rfl ⟨rfl, W.cl hs⟩
theorem string_put {xs : List UInt8} {p : Option Addr} {l c : Nat} (hs : St h0 h (W b bs sp :: rdo 1 p l (bcs xs) :: F)) (hl : bs.length + xs.length + 2 ≤ 70368744177664) :
    CallsH Tryz.prog n_wire_Writer_String #[ptr b, .slice p l c] h (Put h0 (rdo 1 p l (bcs xs) :: F) b bs sp (if xs.length ≤ 8192 then some (numB xs.length 2 ++ xs) else none)) := by
  refine C_wire_Writer_String (some (Addr.mk b 0 none)) p l c ?_
  unfold F_wire_Writer_String
  have hxl := (bs_rdo hs.up1.at).1
  refine (within_put hs l 8192).mono fun v h1 ⟨hv, hs1⟩ => ⟨_, hv, ?_⟩
  clear hs
  have hs := hs1
  clear hs1
  by_cases hx8 : xs.length ≤ 8192
  · have hd : decide ((l : Int) < 0 ∨ 8192 < (l : Int)) = false := by simp; omega
    rw [hd, Bool.or_false] at hs ⊢
    rw [if_pos hx8]
    have hlw : IntKind.wrap .u64 (l : Int) = ((l : Nat) : Int) := by rw [wrap_u64]; omega
    rw [hlw]
    cases sp
    · refine br_yes rfl ((number_put hs l 2 (by omega) (by omega)).mono fun v h4 ⟨hv, hs⟩ => ⟨hv, ?_⟩)
      simp only [putS] at hs
      refine (plain_put (c := c) hs (bs_rdo hs.up1.at) (by simp [numB_length]; omega)).mono fun v h6 ⟨hv, hs⟩ => ⟨hv, rfl, ?_⟩
      simp only [putS, List.append_assoc, hxl] at hs ⊢
      exact hs
    · exact br_no rfl ⟨rfl, hs⟩
  · have hd : decide ((l : Int) < 0 ∨ 8192 < (l : Int)) = true := by simp; omega
    rw [hd, Bool.or_true] at hs ⊢
    rw [if_neg hx8]
    refine br_no rfl ⟨rfl, ?_⟩
    cases sp <;> exact hs

theorem out_ok (hw : At h (W b bs sp)) (hl : bs.length ≤ 70368744177664) :
    CallsH Tryz.prog n_wire_Writer_Out #[ptr b] h fun v h' => ∃ p' l' c', v = .tuple #[.slice p' l' c', .int .i64 (if sp then 4 else 0)] ∧ New h h' [own 1 p' l' c' (bcs (if sp then [] else bs))] := by
  refine C_wire_Writer_Out (some (Addr.mk b 0 none)) ?_
  unfold F_wire_Writer_Out
  simp only [Option.isNone_some, br_false, deref_some, add_mk, Nat.zero_add, Nat.add_zero]
  obtain ⟨p, l, c, h1, h2⟩ := W.at hw
  refine ⟨sp, pts_cell h1 (i := 1) rfl, ?_⟩
  cases sp
  · refine br_no rfl ⟨p, l, c, pts_cell h1 (i := 0) rfl, ?_⟩
    refine (clone_ok h2 (by have := h2.1; omega)).mono fun v h' ⟨p', l', c', hv, n⟩ => ⟨n.ext, p', l', c', hv, p', l', c', by simp, n⟩
  · exact br_yes rfl ⟨none, 0, 0, by simp, ((St.start h).nil 1).new ⟨owns_own, trivial⟩⟩
end
/-- A writer is made. -/
theorem W.mk {h0 h : Heap} {F : List HP} {b : Nat} (hs : St h0 h (pts b 0 false [.slice none 0 0, .bool false] :: F)) : St h0 h (W b [] false :: F) := W.cl (p := none) (l := 0) (c := 0) (hs.nil 1).up1

end Go.Proofs.YthlmiijlhiiccaaGreat
/- The reader of layer 1: what each of its functions does. Its memory is laid out as a writer's. -/
set_option linter.unusedVariables false
namespace Go.Proofs.YthlmiijlhiiccaaGreat
open Go Go.Vc Go.Proofs

/-- The number that bytes stand for. -/
def valB (bs : List UInt8) : Nat := bs.foldl (fun x b => x * 256 + b.toNat) 0
theorem valB_append (xs : List UInt8) (b : UInt8) : valB (xs ++ [b]) = valB xs * 256 + b.toNat := by simp [valB]
theorem valB_take {bs : List UInt8} {k : Nat} (hk : k < bs.length) : valB (bs.take (k + 1)) = valB (bs.take k) * 256 + bs[k].toNat := by
  rw [List.take_succ_eq_append_getElem hk, valB_append]
theorem valB_lt : ∀ (bs : List UInt8), valB bs < 256 ^ bs.length := by
  intro bs
  have key : ∀ k, k ≤ bs.length → valB (bs.take k) < 256 ^ k := by
    intro k
    induction k with
    | zero => intro _; simp [valB]
    | succ k ih =>
      intro hk
      rw [valB_take (by omega), Nat.pow_succ]
      have := ih (by omega)
      have := u8_lt (bs[k]'(by omega))
      omega
  have := key bs.length (Nat.le_refl _)
  rwa [List.take_length] at this
theorem valB_le {bs : List UInt8} {n : Nat} (hn : bs.length ≤ n) : valB bs < 256 ^ n := Nat.lt_of_lt_of_le (valB_lt bs) (Nat.pow_le_pow_right (by omega) hn)
theorem orI_u64 {a b : Nat} (ha : a < 2 ^ 64) (hb : b < 2 ^ 64) : orI .u64 (a : Int) (b : Int) = ((a ||| b : Nat) : Int) := by
  have hb8 : IntKind.u64.bits = 64 := rfl
  unfold orI
  rw [hb8]
  have e : (BitVec.ofInt 64 (a : Int) ||| BitVec.ofInt 64 (b : Int)).toNat = a ||| b := by
    rw [BitVec.ofInt_natCast, BitVec.ofInt_natCast, BitVec.toNat_or, BitVec.toNat_ofNat, BitVec.toNat_ofNat, Nat.mod_eq_of_lt ha, Nat.mod_eq_of_lt hb]
  rw [e, wrap_u64]
  have := Nat.or_lt_two_pow ha hb
  omega
theorem shift8 {x : Nat} (hx : x < 2 ^ 56) {b : Nat} (hb : b < 256) : orI .u64 (shlI .u64 (x : Int) 8) (IntKind.wrap .u64 (b : Int)) = ((x * 256 + b : Nat) : Int) := by
  have e1 : shlI .u64 (x : Int) 8 = ((x * 256 : Nat) : Int) := by
    unfold shlI
    have : (min (8 : Int).toNat IntKind.u64.bits) = 8 := rfl
    rw [this, wrap_u64]
    omega
  have e2 : IntKind.wrap .u64 (b : Int) = (b : Int) := by rw [wrap_u64]; omega
  rw [e1, e2, orI_u64 (by omega) (by omega)]
  congr 1
  have := Nat.shiftLeft_add_eq_or_of_lt (i := 8) (b := b) (by omega) x
  rw [Nat.shiftLeft_eq] at this
  exact this.symm

/-- Bytes taken from the front: they, what is left, whether the reader fails. -/
def takeR (bs : List UInt8) (f : Bool) (n : Int) : List UInt8 × List UInt8 × Bool :=
  if f = false ∧ 0 ≤ n ∧ n ≤ bs.length then (bs.take n.toNat, bs.drop n.toNat, false) else ([], bs, true)
def numR (bs : List UInt8) (f : Bool) (n : Nat) : Nat × List UInt8 × Bool :=
  if f = false ∧ n ≤ bs.length then (valB (bs.take n), bs.drop n, false) else (0, bs, true)
def flagR (bs : List UInt8) (f : Bool) : Bool × List UInt8 × Bool :=
  if f = false ∧ 1 ≤ bs.length ∧ valB (bs.take 1) ≤ 1 then (decide (valB (bs.take 1) = 1), bs.drop 1, false) else (false, bs, true)
def strR (bs : List UInt8) (f : Bool) (most : Int) : List UInt8 × List UInt8 × Bool :=
  if f = false ∧ 2 ≤ bs.length ∧ (valB (bs.take 2) : Int) ≤ most ∧ valB (bs.take 2) ≤ 8192 ∧ valB (bs.take 2) + 2 ≤ bs.length then ((bs.drop 2).take (valB (bs.take 2)), bs.drop (2 + valB (bs.take 2)), false) else ([], bs, true)
def countR (bs : List UInt8) (f : Bool) (most : Int) : Nat × List UInt8 × Bool :=
  if f = false ∧ 2 ≤ bs.length ∧ (valB (bs.take 2) : Int) ≤ most ∧ valB (bs.take 2) ≤ 4096 then (valB (bs.take 2), bs.drop 2, false) else (0, bs, true)

section
variable {h0 h : Heap} {F : List HP} {b : Nat} {bs : List UInt8} {f : Bool}

theorem map_add0 (p : Option Addr) (n : Nat) : (if n = 0 then p else p.map fun a => a.add (0 * 1)) = p := by
  split
  · rfl
  · cases p <;> simp [add_zero]
theorem takes_ok (hs : St h0 h (W b bs f :: F)) (n : Int) :
    CallsH Tryz.prog n_wire_Reader_takes #[ptr b, .int .i64 n] h fun v h' => ∃ p' l' c', v = .slice p' l' c' ∧ St h0 h' (W b (takeR bs f n).2.1 (takeR bs f n).2.2 :: own 1 p' l' c' (bcs (takeR bs f n).1) :: F) := by
  refine C_wire_Reader_takes (some (Addr.mk b 0 none)) n ?_
  unfold F_wire_Reader_takes
  simp only [Option.isNone_some, br_false, deref_some, add_mk, Nat.zero_add, Nat.add_zero]
  obtain ⟨p, l, c, hs⟩ := W.op hs
  have hlen := hs.up1.len
  rw [bcs_length] at hlen
  refine ⟨f, hs.cell0 rfl, ?_⟩
  have bad : ¬ (f = false ∧ 0 ≤ n ∧ n ≤ bs.length) → storeP none h (Addr.mk b 1 none) (Value.bool true) fun h3 => ∃ p' l' c', Value.slice none 0 0 = .slice p' l' c' ∧ St h0 h3 (W b (takeR bs f n).2.1 (takeR bs f n).2.2 :: own 1 p' l' c' (bcs (takeR bs f n).1) :: F) := by
    intro hno
    refine hs.store0 (by simp) rfl fun h3 hs => ⟨none, 0, 0, rfl, ?_⟩
    unfold takeR
    rw [if_neg hno]
    exact (St.nil (W.cl hs) 1).up1
  cases f
  · refine br_no rfl ?_
    rw [br_decide]
    refine ⟨fun hn => bad (by omega), fun hn => ⟨p, l, c, hs.cell0 rfl, ?_⟩⟩
    rw [br_decide]
    refine ⟨fun hn2 => bad (by omega), fun hn2 => ⟨p, l, c, hs.cell0 rfl, ?_⟩⟩
    obtain ⟨n, rfl⟩ : ∃ k : Nat, n = k := ⟨n.toNat, by omega⟩
    refine ⟨by omega, by omega, by omega, by omega, p, l, c, hs.cell0 rfl, by omega, by omega, by omega, by omega, ?_⟩
    have hs2 := own_split (n := n) (by omega) hs.up1
    simp only [Int.toNat_natCast, Int.toNat_zero, Nat.sub_zero] 
    rw [map_add0]
    refine hs2.up2.store0 (by simp) rfl fun h25 hs => ⟨p, n, n, rfl, ?_⟩
    unfold takeR
    rw [if_pos ⟨rfl, by omega, by omega⟩]
    simp only [Int.toNat_natCast, Nat.mul_one, bcs_take] at hs ⊢
    refine W.cl (p := if c = n then p else p.map fun a => a.add n) (l := l - n) (c := c - n) ?_
    rw [bcs_drop]
    exact hs.up2.up1
  · refine br_yes rfl ⟨none, 0, 0, rfl, ?_⟩
    unfold takeR
    rw [if_neg (by simp)]
    exact (St.nil (W.cl hs) 1).up1

theorem peek_ok (hw : At h (W b bs f)) (n : Nat) (hn : n ≤ 8) :
    CallsH Tryz.prog n_wire_Reader_peek #[ptr b, .int .i64 n] h fun v h' => v = .tuple #[.int .u64 (numR bs f n).1, .bool (decide (f = false ∧ n ≤ bs.length))] ∧ h' = h := by
  refine C_wire_Reader_peek (some (Addr.mk b 0 none)) n ?_
  unfold F_wire_Reader_peek
  simp only [Option.isNone_some, br_false, deref_some, add_mk, Nat.zero_add, Nat.add_zero]
  obtain ⟨p, l, c, h1, h2⟩ := W.at hw
  refine ⟨f, pts_cell h1 (i := 1) rfl, ?_⟩
  cases f
  · refine br_no rfl ⟨p, l, c, pts_cell h1 (i := 0) rfl, ?_⟩
    have hl := h2.1
    rw [br_decide]
    refine ⟨fun hlt => ⟨?_, by trivial⟩, fun hge => ⟨p, l, c, pts_cell h1 (i := 0) rfl, by omega, by omega, ?_, by omega, ?_⟩⟩
    · rw [numR, if_neg (by omega), decide_eq_false (by omega)]; rfl
    · have hc : l ≤ c := by
        obtain ⟨m, s, p', l', c', m1, m2, a1, a2, _, q1, m3, m4, b1, b2, _, q2, _⟩ := hw
        have h3 := pts_cell (h := h) ⟨m1, s.le a1, q1⟩ (i := 0) rfl
        have h4 := pts_cell h1 (i := 0) rfl
        rw [h3] at h4
        cases h4
        exact q2.2.1
      omega
    · simp only [Int.toNat_natCast, Int.toNat_zero, Nat.sub_zero]
      have hp : (if c = 0 then p else p.map fun a => a.add (0 * 1)) = p := map_add0 p c
      rw [hp]
      refine ⟨fun t h' => h' = h ∧ ∃ k : Nat, t.2 = k ∧ k ≤ n ∧ t.1 = ((valB (bs.take k) : Nat) : Int), fun t _ => n - t.2.toNat, ⟨by trivial, 0, rfl, by omega, by simp [valB]⟩, ?_⟩
      rintro ⟨x, i⟩ h16 ⟨rfl, k, hi, hk, hx⟩
      simp only at hi hx ⊢
      subst hi; subst hx
      rw [br_decide]
      refine ⟨fun hlt => ⟨by omega, hlt, ?_⟩, fun hge => ⟨?_, by trivial⟩⟩
      · obtain ⟨a, rfl, hcell⟩ := h2.cell (i := k) (by omega)
        refine ⟨_, by simpa [bv] using hcell, by omega, ?_⟩
        have hv : valB (bs.take k) < 2 ^ 56 := by
          have := valB_le (bs := bs.take k) (n := 7) (by simp; omega)
          exact Nat.lt_of_lt_of_le this (by decide)
        rw [shift8 hv (u8_lt _), ← valB_take (by omega), wrap_i64 (by omega) (by omega)]
        exact ⟨⟨by trivial, k + 1, by omega, by omega, rfl⟩, by show n - ((k : Int) + 1).toNat < n - (k : Int).toNat; omega⟩
      · have : k = n := by omega
        subst this
        have hd : decide (false = false ∧ k ≤ bs.length) = true := decide_eq_true ⟨rfl, by omega⟩
        simp only [true_and] at hd ⊢
        rw [numR, if_pos ⟨rfl, by omega⟩, hd]
  · refine br_yes rfl ⟨?_, by trivial⟩
    rw [numR, if_neg (by simp), decide_eq_false (by simp)]; rfl

theorem takeR_num (bs : List UInt8) (f : Bool) (n : Nat) : (takeR bs f n).2 = (numR bs f n).2 := by
  unfold takeR numR
  by_cases hc : f = false ∧ n ≤ bs.length
  · rw [if_pos (show f = false ∧ (0 : Int) ≤ (n : Int) ∧ (n : Int) ≤ (bs.length : Int) from ⟨hc.1, Int.natCast_nonneg _, Int.ofNat_le.2 hc.2⟩), if_pos hc]; rfl
  · rw [if_neg (fun hh => hc ⟨hh.1, Int.ofNat_le.1 hh.2.2⟩), if_neg hc]
theorem number_ok (hs : St h0 h (W b bs f :: F)) (n : Nat) (hn : n ≤ 8) :
    CallsH Tryz.prog n_wire_Reader_number #[ptr b, .int .i64 n] h fun v h' => v = .int .u64 (numR bs f n).1 ∧ St h0 h' (W b (numR bs f n).2.1 (numR bs f n).2.2 :: F) := by
  refine C_wire_Reader_number (some (Addr.mk b 0 none)) n ?_
  unfold F_wire_Reader_number
  refine (peek_ok hs.at n hn).mono fun v h1 ⟨hv, hh⟩ => ?_
  subst hh
  refine ⟨Ext.refl _, _, _, hv, (takes_ok hs n).mono fun v h5 ⟨p', l', c', hv, hs⟩ => ⟨p', l', c', hv, ?_⟩⟩
  rw [takeR_num] at hs
  have hs := hs.up1.drop
  by_cases hc : f = false ∧ n ≤ bs.length
  · exact br_no (by simp [hc]) ⟨rfl, hs⟩
  · refine br_yes (by simp only [decide_eq_false hc]; rfl) ⟨?_, hs⟩
    rw [numR, if_neg hc]; rfl
theorem numR_lt (bs : List UInt8) (f : Bool) (n : Nat) : (numR bs f n).1 < 256 ^ n := by
  unfold numR
  split
  · exact valB_le (by simp; omega)
  · exact Nat.pow_pos (by omega)
theorem spoil_ok (hs : St h0 h (W b bs f :: F)) : CallsH Tryz.prog n_wire_Reader_spoil #[ptr b] h fun v h' => v = unit ∧ St h0 h' (W b bs true :: F) := by
  refine C_wire_Reader_spoil (some (Addr.mk b 0 none)) ?_
  unfold F_wire_Reader_spoil
  simp only [Option.isNone_some, Bool.not_false, br_true, deref_some, Nat.zero_add]
  obtain ⟨p, l, c, hs⟩ := W.op hs
  exact hs.store0 (by simp) rfl fun h1 hs => ⟨by trivial, W.cl hs⟩
theorem rU8_ok (hs : St h0 h (W b bs f :: F)) : CallsH Tryz.prog n_wire_Reader_U8 #[ptr b] h fun v h' => v = .int .i64 (numR bs f 1).1 ∧ St h0 h' (W b (numR bs f 1).2.1 (numR bs f 1).2.2 :: F) := by
  refine C_wire_Reader_U8 (some (Addr.mk b 0 none)) ?_
  unfold F_wire_Reader_U8
  refine (number_ok hs 1 (by omega)).mono fun v h1 ⟨hv, hs⟩ => ⟨_, hv, ?_, hs⟩
  have := numR_lt bs f 1
  rw [wrap_i64 (by omega) (by omega)]
theorem rU16_ok (hs : St h0 h (W b bs f :: F)) : CallsH Tryz.prog n_wire_Reader_U16 #[ptr b] h fun v h' => v = .int .i64 (numR bs f 2).1 ∧ St h0 h' (W b (numR bs f 2).2.1 (numR bs f 2).2.2 :: F) := by
  refine C_wire_Reader_U16 (some (Addr.mk b 0 none)) ?_
  unfold F_wire_Reader_U16
  refine (number_ok hs 2 (by omega)).mono fun v h1 ⟨hv, hs⟩ => ⟨_, hv, ?_, hs⟩
  have := numR_lt bs f 2
  rw [wrap_i64 (by omega) (by omega)]
theorem rU32_ok (hs : St h0 h (W b bs f :: F)) : CallsH Tryz.prog n_wire_Reader_U32 #[ptr b] h fun v h' => v = .int .u32 (numR bs f 4).1 ∧ St h0 h' (W b (numR bs f 4).2.1 (numR bs f 4).2.2 :: F) := by
  refine C_wire_Reader_U32 (some (Addr.mk b 0 none)) ?_
  unfold F_wire_Reader_U32
  refine (number_ok hs 4 (by omega)).mono fun v h1 ⟨hv, hs⟩ => ⟨_, hv, ?_, hs⟩
  have := numR_lt bs f 4
  rw [wrap_u32]
  congr 1
  omega
theorem numR_true (bs : List UInt8) (n : Nat) : numR bs true n = (0, bs, true) := by unfold numR; rw [if_neg (by simp)]
theorem rFlag_ok (hs : St h0 h (W b bs f :: F)) : CallsH Tryz.prog n_wire_Reader_Flag #[ptr b] h fun v h' => v = .bool (flagR bs f).1 ∧ St h0 h' (W b (flagR bs f).2.1 (flagR bs f).2.2 :: F) := by
  refine C_wire_Reader_Flag (some (Addr.mk b 0 none)) ?_
  unfold F_wire_Reader_Flag
  have bad : ¬ (f = false ∧ 1 ≤ bs.length ∧ valB (bs.take 1) ≤ 1) → CallsH Tryz.prog n_wire_Reader_spoil #[ptr b] h fun v4 h5 => v4 = unit ∧ CallsH Tryz.prog n_wire_Reader_number #[ptr b, .int .i64 (1 : Nat)] h5 fun v6 h7 => ∃ n8, v6 = .int .u64 n8 ∧ (Value.bool (n8 == 1) = .bool (flagR bs f).1 ∧ St h0 h7 (W b (flagR bs f).2.1 (flagR bs f).2.2 :: F)) := by
    intro hno
    refine (spoil_ok hs).mono fun v h5 ⟨hv, hs⟩ => ⟨hv, (number_ok hs 1 (by omega)).mono fun v h7 ⟨hv, hs⟩ => ⟨_, hv, ?_⟩⟩
    rw [numR_true] at hs ⊢
    rw [flagR, if_neg hno]
    exact ⟨rfl, hs⟩
  refine (peek_ok hs.at 1 (by omega)).mono fun v h1 ⟨hv, hh⟩ => ?_
  subst hh
  refine ⟨Ext.refl _, _, _, hv, ?_⟩
  by_cases hc : f = false ∧ 1 ≤ bs.length
  · refine br_no (by simp [hc]) ?_
    rw [br_decide]
    have en : (numR bs f 1).1 = valB (bs.take 1) := by rw [numR, if_pos hc]
    refine ⟨fun hgt => bad (by rw [en] at hgt; omega), fun hle => (number_ok hs 1 (by omega)).mono fun v h7 ⟨hv, hs⟩ => ⟨_, hv, ?_⟩⟩
    rw [en] at hle
    rw [numR, if_pos hc] at hs ⊢
    rw [flagR, if_pos ⟨hc.1, hc.2, by omega⟩]
    refine ⟨?_, hs⟩
    congr 1
    rw [Bool.eq_iff_iff, beq_iff_eq, decide_eq_true_iff]
    omega
  · exact br_yes (by simp only [decide_eq_false hc]; rfl) (bad fun hh => hc ⟨hh.1, hh.2.1⟩)
theorem rPlain_ok (hs : St h0 h (W b bs f :: F)) (n : Int) :
    CallsH Tryz.prog n_wire_Reader_Plain #[ptr b, .int .i64 n] h fun v h' => ∃ p' l' c', v = .slice p' l' c' ∧ St h0 h' (W b (takeR bs f n).2.1 (takeR bs f n).2.2 :: own 1 p' l' c' (bcs (takeR bs f n).1) :: F) := by
  refine C_wire_Reader_Plain (some (Addr.mk b 0 none)) n ?_
  unfold F_wire_Reader_Plain
  exact (takes_ok hs n).mono fun v h' ⟨p', l', c', hv, hh⟩ => ⟨p', l', c', hv, p', l', c', rfl, hh⟩
theorem left_ok (hw : At h (W b bs f)) : CallsH Tryz.prog n_wire_Reader_Left #[ptr b] h fun v h' => v = .int .i64 (bs.length : Nat) ∧ h' = h := by
  refine C_wire_Reader_Left (some (Addr.mk b 0 none)) ?_
  unfold F_wire_Reader_Left
  simp only [Option.isNone_some, br_false, deref_some, add_mk, Nat.add_zero]
  obtain ⟨p, l, c, h1, h2⟩ := W.at hw
  exact ⟨p, l, c, pts_cell h1 (i := 0) rfl, by rw [h2.1], by trivial⟩
theorem fails_ok (hw : At h (W b bs f)) : CallsH Tryz.prog n_wire_Reader_Fails #[ptr b] h fun v h' => v = .bool f ∧ h' = h := by
  refine C_wire_Reader_Fails (some (Addr.mk b 0 none)) ?_
  unfold F_wire_Reader_Fails
  simp only [Option.isNone_some, br_false, deref_some, add_mk, Nat.zero_add]
  obtain ⟨p, l, c, h1, h2⟩ := W.at hw
  exact ⟨f, pts_cell h1 (i := 1) rfl, by trivial, by trivial⟩
theorem done_ok (hw : At h (W b bs f)) : CallsH Tryz.prog n_wire_Reader_Done #[ptr b] h fun v h' => v = .bool (decide (f = false ∧ bs = [])) ∧ h' = h := by
  refine C_wire_Reader_Done (some (Addr.mk b 0 none)) ?_
  unfold F_wire_Reader_Done
  refine (fails_ok hw).mono fun v h1 ⟨hv, hh⟩ => ?_
  subst hh
  refine ⟨Ext.refl _, _, hv, ?_⟩
  cases f
  · refine br_yes rfl ((left_ok hw).mono fun v h4 ⟨hv, hh⟩ => ?_)
    subst hh
    refine ⟨Ext.refl _, _, hv, ?_, rfl⟩
    congr 1
    rw [Bool.eq_iff_iff, beq_iff_eq, decide_eq_true_iff]
    constructor
    · intro e; exact ⟨rfl, List.eq_nil_of_length_eq_zero (by omega)⟩
    · rintro ⟨_, rfl⟩; rfl
  · exact br_no rfl ⟨by simp, rfl⟩
theorem rString_ok (hs : St h0 h (W b bs f :: F)) (most : Int) :
    CallsH Tryz.prog n_wire_Reader_String #[ptr b, .int .i64 most] h fun v h' => ∃ p' l' c', v = .slice p' l' c' ∧ St h0 h' (W b (strR bs f most).2.1 (strR bs f most).2.2 :: own 1 p' l' c' (bcs (strR bs f most).1) :: F) := by
  refine C_wire_Reader_String (some (Addr.mk b 0 none)) most ?_
  unfold F_wire_Reader_String
  have bad : ¬ (f = false ∧ 2 ≤ bs.length ∧ (valB (bs.take 2) : Int) ≤ most ∧ valB (bs.take 2) ≤ 8192 ∧ valB (bs.take 2) + 2 ≤ bs.length) →
      CallsH Tryz.prog n_wire_Reader_spoil #[ptr b] h fun v4 h5 => v4 = unit ∧ ∃ p' l' c', Value.slice none 0 0 = .slice p' l' c' ∧ St h0 h5 (W b (strR bs f most).2.1 (strR bs f most).2.2 :: own 1 p' l' c' (bcs (strR bs f most).1) :: F) := by
    intro hno
    refine (spoil_ok hs).mono fun v h5 ⟨hv, hs⟩ => ⟨hv, none, 0, 0, rfl, ?_⟩
    rw [strR, if_neg hno]
    exact (hs.nil 1).up1
  refine (peek_ok hs.at 2 (by omega)).mono fun v h1 ⟨hv, hh⟩ => ?_
  subst hh
  refine ⟨Ext.refl _, _, _, hv, ?_⟩
  by_cases hc : f = false ∧ 2 ≤ bs.length
  · refine br_no (by simp [hc]) ?_
    have en : (numR bs f 2).1 = valB (bs.take 2) := by rw [numR, if_pos hc]
    have hlt : valB (bs.take 2) < 65536 := valB_le (n := 2) (by simp; omega)
    have hmax := W.len hs
    unfold maxLen at hmax
    rw [en, wrap_i64 (by omega) (by omega)]
    rw [br_decide]
    refine ⟨fun hgt => bad (by omega), fun hle => ?_⟩
    rw [br_decide]
    refine ⟨fun hgt => bad (by omega), fun hle2 => (left_ok hs.at).mono fun v h11 ⟨hv, hh⟩ => ?_⟩
    subst hh
    refine ⟨Ext.refl _, _, hv, ?_⟩
    rw [wrap_i64 (by omega) (by omega), br_decide]
    refine ⟨fun hgt => bad (by omega), fun hle3 => (number_ok hs 2 (by omega)).mono fun v h16 ⟨hv, hs⟩ => ⟨_, hv, (takes_ok hs _).mono fun v h19 ⟨p', l', c', hv, hs⟩ => ⟨p', l', c', hv, p', l', c', rfl, ?_⟩⟩⟩
    rw [strR, if_pos ⟨hc.1, hc.2, by omega, by omega, by omega⟩]
    rw [numR, if_pos hc] at hs
    simp only [takeR, List.length_drop, Int.toNat_natCast] at hs
    rw [if_pos ⟨trivial, by omega, by omega⟩] at hs
    simp only [List.drop_drop] at hs
    exact hs
  · exact br_yes (by simp only [decide_eq_false hc]; rfl) (bad fun hh => hc ⟨hh.1, hh.2.1⟩)
theorem rCount_ok (hs : St h0 h (W b bs f :: F)) (most : Int) :
    CallsH Tryz.prog n_wire_Reader_Count #[ptr b, .int .i64 most] h fun v h' => v = .int .i64 (countR bs f most).1 ∧ St h0 h' (W b (countR bs f most).2.1 (countR bs f most).2.2 :: F) := by
  refine C_wire_Reader_Count (some (Addr.mk b 0 none)) most ?_
  unfold F_wire_Reader_Count
  have bad : ¬ (f = false ∧ 2 ≤ bs.length ∧ (valB (bs.take 2) : Int) ≤ most ∧ valB (bs.take 2) ≤ 4096) →
      CallsH Tryz.prog n_wire_Reader_spoil #[ptr b] h fun v4 h5 => v4 = unit ∧ (Value.int .i64 0 = .int .i64 (countR bs f most).1 ∧ St h0 h5 (W b (countR bs f most).2.1 (countR bs f most).2.2 :: F)) := by
    intro hno
    refine (spoil_ok hs).mono fun v h5 ⟨hv, hs⟩ => ⟨hv, ?_⟩
    rw [countR, if_neg hno]
    exact ⟨rfl, hs⟩
  refine (peek_ok hs.at 2 (by omega)).mono fun v h1 ⟨hv, hh⟩ => ?_
  subst hh
  refine ⟨Ext.refl _, _, _, hv, ?_⟩
  by_cases hc : f = false ∧ 2 ≤ bs.length
  · refine br_no (by simp [hc]) ?_
    have en : (numR bs f 2).1 = valB (bs.take 2) := by rw [numR, if_pos hc]
    have hlt : valB (bs.take 2) < 65536 := valB_le (n := 2) (by simp; omega)
    rw [en, wrap_i64 (by omega) (by omega)]
    rw [br_decide]
    refine ⟨fun hgt => bad (by omega), fun hle => ?_⟩
    rw [br_decide]
    refine ⟨fun hgt => bad (by omega), fun hle2 => (number_ok hs 2 (by omega)).mono fun v h16 ⟨hv, hs⟩ => ⟨_, hv, ?_⟩⟩
    rw [numR, if_pos hc] at hs ⊢
    rw [countR, if_pos ⟨hc.1, hc.2, by omega, by omega⟩, wrap_i64 (by omega) (by omega)]
    exact ⟨rfl, hs⟩
  · exact br_yes (by simp only [decide_eq_false hc]; rfl) (bad fun hh => hc ⟨hh.1, hh.2.1⟩)
theorem rdr_ok {p : Option Addr} {l c : Nat} {xs : List UInt8} (hx : Bs h p l xs) (hl : l ≤ 70368744177664) :
    CallsH Tryz.prog n_wire_New #[.slice p l c] h fun v h' => ∃ b, v = ptr b ∧ New h h' [W b xs false] := by
  refine C_wire_New p l c ?_
  unfold F_wire_New
  refine (clone_ok hx hl).mono fun v h1 ⟨p', l', c', hv, n⟩ => ⟨n.ext, p', l', c', hv, n.st.newBlk fun b h2 hb s e => ⟨b, rfl, (W.cl s).new ⟨owns_W, trivial⟩⟩⟩
end
end Go.Proofs.YthlmiijlhiiccaaGreat
/- The reference of layer 1: what its functions answer. -/
set_option linter.unusedVariables false
namespace Go.Proofs.YthlmiijlhiiccaaGreat
open Go Go.Vc Go.Proofs

/- ### Numbers -/
theorem dg_step (x k : Nat) : x / 256 ^ k / 256 = x / 256 ^ (k + 1) := by rw [Nat.pow_succ, Nat.div_div_eq_div_mul]
theorem dg_byte (x k : Nat) : Value.int .u8 (IntKind.wrap .u8 (((x / 256 ^ k) % 256 : Nat) : Int)) = bv (dg x k) := by
  rw [dg, byte_of_int, wrap_u8]
  congr 1
  omega
def revB (x : Nat) : Nat → List UInt8
  | 0 => []
  | n + 1 => revB x n ++ [dg x n]
theorem revB_length (x : Nat) : ∀ n, (revB x n).length = n
  | 0 => rfl
  | n + 1 => by simp [revB, revB_length x n]
theorem revB_get (x : Nat) : ∀ {n i : Nat}, i < n → (revB x n)[i]? = some (dg x i)
  | n + 1, i, hi => by
    unfold revB
    by_cases hin : i = n
    · subst hin
      rw [List.getElem?_append_right (by rw [revB_length]; exact Nat.le_refl _), revB_length, Nat.sub_self]; rfl
    · rw [List.getElem?_append_left (by rw [revB_length]; omega)]
      exact revB_get x (by omega)
theorem rnumber_ok {h : Heap} (x n : Nat) (hx : x < 18446744073709551616) (hn : n ≤ 8) :
    CallsH Tryz.prog n_ref01_Number #[.int .u64 x, .int .i64 n] h fun v h' => ∃ p l c, v = .slice p l c ∧ New h h' [own 1 p l c (bcs (numB x n))] := by
  refine C_ref01_Number x n ?_
  unfold F_ref01_Number
  refine ⟨fun t h' => ∃ (k : Nat), t.2.2 = (k : Int) ∧ k ≤ n ∧ t.1 = ((x / 256 ^ k : Nat) : Int) ∧ St h h' [own 1 t.2.1.1 t.2.1.2.1 t.2.1.2.2 (bcs (revB x k))], fun t _ => n - t.2.2.toNat, ⟨0, rfl, by omega, by simp, (St.start h).nil 1⟩, ?_⟩
  rintro ⟨y, ⟨p, l, c⟩, i⟩ h3 ⟨k, hi, hk, hy, s⟩
  simp only at hi hy s ⊢
  subst hi; subst hy
  have hlen := s.len
  rw [bcs_length, revB_length] at hlen
  rw [br_decide]
  refine ⟨fun hlt => ⟨by omega, ?_⟩, fun hge => ?_⟩
  · have e1 : Int.tmod ((x / 256 ^ k : Nat) : Int) 256 = ((x / 256 ^ k % 256 : Nat) : Int) := rfl
    have e2 : Int.tdiv ((x / 256 ^ k : Nat) : Int) 256 = ((x / 256 ^ k / 256 : Nat) : Int) := rfl
    have hd : x / 256 ^ k / 256 < 18446744073709551616 := Nat.lt_of_le_of_lt (Nat.le_trans (Nat.div_le_self _ _) (Nat.div_le_self _ _)) hx
    have e3 : IntKind.wrap .u64 ((x / 256 ^ k / 256 : Nat) : Int) = ((x / 256 ^ k / 256 : Nat) : Int) := by
      generalize x / 256 ^ k / 256 = z at hd
      rw [wrap_u64]; omega
    have e4 : IntKind.wrap .i64 ((k : Int) + 1) = ((k + 1 : Nat) : Int) := by rw [wrap_i64 (by omega) (by omega)]; omega
    rw [e1, e2, e3, e4, dg_byte]
    refine s.newBlk fun b h5 _ s _ => ?_
    refine St.append (xs := [bv (dg x k)]) s.up1 ⟨rfl, by simp only [src, Nat.one_mul]; exact s.row0 rfl⟩ (by simp [bv_one]) rfl (by omega) (by unfold maxLen; omega) fun p' c' h9 s _ => ⟨by omega, ⟨k + 1, rfl, by omega, by rw [dg_step], ?_⟩, ?_⟩
    · have e : bcs (revB x (k + 1)) = bcs (revB x k) ++ [bv (dg x k)] := by simp [revB, bcs, bv]
      rw [e]
      exact s.up1.drop
    · show n - ((k + 1 : Nat) : Int).toNat < n - (k : Int).toNat
      omega
  · have : k = n := by omega
    subst this
    refine ⟨fun t h' => ∃ (j : Nat) (dn : List UInt8), t.2 = (j : Int) - 1 ∧ j ≤ k ∧ dn ++ numB x j = numB x k ∧ St h h' [own 1 t.1.1 t.1.2.1 t.1.2.2 (bcs dn), own 1 p l c (bcs (revB x k))], fun t _ => (t.2 + 1).toNat, ⟨k, [], by simp only; rw [wrap_i64 (by omega) (by omega)], Nat.le_refl _, rfl, s.nil 1⟩, ?_⟩
    rintro ⟨⟨p2, l2, c2⟩, i⟩ h13 ⟨j, dn, hi, hj, hdn, s⟩
    simp only at hi s ⊢
    subst hi
    rw [br_decide]
    refine ⟨fun hge => ?_, fun hlt => ?_⟩
    · obtain ⟨j, rfl⟩ : ∃ i, j = i + 1 := ⟨j - 1, by omega⟩
      have ej : ((j + 1 : Nat) : Int) - 1 = (j : Int) := by omega
      rw [ej]
      have hlen2 := s.len
      rw [bcs_length] at hlen2
      have hdl : dn.length + (j + 1) = k := by
        have := congrArg List.length hdn
        simpa [numB_length] using this
      have hb : Bs h13 p l (revB x k) := bs_own (c := c) s.up1.at
      obtain ⟨a, rfl, hc⟩ := hb.cell (i := j) (by rw [revB_length]; omega)
      have hcj : (revB x k)[j]'(by rw [revB_length]; omega) = dg x j := by
        have := revB_get x (n := k) (i := j) (by omega)
        rw [List.getElem?_eq_getElem (by rw [revB_length]; omega)] at this
        exact Option.some.inj this
      rw [hcj] at hc
      refine ⟨by omega, by omega, _, by simpa [bv] using hc, ?_⟩
      refine s.newBlk fun b h17 _ s _ => ?_
      refine St.append (xs := [bv (dg x j)]) s.up1 ⟨rfl, by simp only [src, Nat.one_mul]; exact s.row0 rfl⟩ (by simp [bv_one]) rfl (by omega) (by unfold maxLen; omega) fun p' c' h9 s _ => ?_
      rw [wrap_i64 (by omega) (by omega)]
      refine ⟨⟨j, dn ++ [dg x j], rfl, by omega, by rw [← hdn, numB]; simp, ?_⟩, by show ((j : Int) - 1 + 1).toNat < ((j : Int) + 1).toNat; omega⟩
      have e : bcs (dn ++ [dg x j]) = bcs dn ++ [bv (dg x j)] := by simp [bcs, bv]
      rw [e]
      exact s.up1.drop
    · have : j = 0 := by omega
      subst this
      simp only [numB, List.append_nil] at hdn
      subst hdn
      exact ⟨p2, l2, c2, rfl, s.up1.drop.new ⟨owns_own, trivial⟩⟩
def sizeK (k : Int) : Nat := if k = 1 ∨ k = 5 then 1 else if k = 2 ∨ k = 8 then 2 else if k = 3 then 4 else if k = 4 then 8 else 0
/- ### Fields -/
structure Fld where
  k : Int
  x : Nat
  b : List UInt8
/-- A field's cells. -/
def FldR (h : Heap) (cs : List Value) (f : Fld) : Prop := ∃ p l c, cs = [.int .i64 f.k, .int .u64 (f.x : Int), .slice p l c] ∧ l ≤ c ∧ c ≤ maxLen ∧ Bs h p l f.b ∧ f.x < 18446744073709551616 ∧ -9223372036854775808 ≤ f.k ∧ f.k ≤ 9223372036854775807
def Flds (h : Heap) (p : Option Addr) (n : Nat) (fs : List Fld) : Prop := ∃ rows : List (List Value), rows.length = n ∧ fs.length = n ∧ Rd h 3 p n rows.flatten ∧ ∀ i (h1 : i < rows.length) (h2 : i < fs.length), FldR h rows[i] fs[i]
theorem FldR.ext {h h' : Heap} {cs : List Value} {f : Fld} (r : FldR h cs f) (e : Ext h h') : FldR h' cs f := by
  obtain ⟨p, l, c, a, b, b2, d, g⟩ := r
  exact ⟨p, l, c, a, b, b2, d.ext e, g⟩
theorem Flds.ext {h h' : Heap} {p : Option Addr} {n : Nat} {fs : List Fld} (r : Flds h p n fs) (e : Ext h h') : Flds h' p n fs := by
  obtain ⟨rows, a, b, c, d⟩ := r
  exact ⟨rows, a, b, c.ext e, fun i h1 h2 => (d i h1 h2).ext e⟩
theorem Flds.len {h : Heap} {p : Option Addr} {n : Nat} {fs : List Fld} (r : Flds h p n fs) : fs.length = n := r.choose_spec.2.1
theorem Flds.get {h : Heap} {p : Option Addr} {n : Nat} {fs : List Fld} (r : Flds h p n fs) {i : Nat} (hi : i < n) : ∃ b o q l c, ∃ h2 : i < fs.length, p = some (Addr.mk b o none) ∧
    cell h (Addr.mk b (o + i * 3) none) = some (.int .i64 fs[i].k) ∧ cell h (Addr.mk b (o + i * 3 + 1) none) = some (.int .u64 (fs[i].x : Int)) ∧ cell h (Addr.mk b (o + i * 3 + 2) none) = some (.slice q l c) ∧ l ≤ c ∧ c ≤ maxLen ∧ Bs h q l fs[i].b ∧ fs[i].x < 18446744073709551616 ∧ -9223372036854775808 ≤ fs[i].k ∧ fs[i].k ≤ 9223372036854775807 ∧
    row h (Addr.mk b (o + i * 3) none) 3 = some #[.int .i64 fs[i].k, .int .u64 (fs[i].x : Int), .slice q l c] := by
  obtain ⟨rows, h1, h2, h3, h4⟩ := r
  have hsz : ∀ r ∈ rows, r.length = 3 := fun r hr => by
    obtain ⟨j, hj, rfl⟩ := List.mem_iff_getElem.1 hr
    obtain ⟨_, _, _, e, _⟩ := h4 j hj (by omega)
    rw [e]; rfl
  obtain ⟨b, o, e, hc⟩ := rows_get h3 h1 hsz (by omega) hi
  obtain ⟨q, l, c, er, hlc, hcm, hb, hx, hk⟩ := h4 i (by omega) (by omega)
  have c0 := hc 0 (by omega) (by omega) (by rw [er]; simp)
  have c1 := hc 1 (by omega) (by omega) (by rw [er]; simp)
  have c2 := hc 2 (by omega) (by omega) (by rw [er]; simp)
  simp only [er, List.getElem_cons_zero, List.getElem_cons_succ, Nat.add_zero] at c0 c1 c2
  refine ⟨b, o, q, l, c, by omega, e, c0, c1, c2, hlc, hcm, hb, hx, hk.1, hk.2, ?_⟩
  have := row_of (h := h) (a := Addr.mk b (o + i * 3) none) [.int .i64 fs[i].k, .int .u64 (fs[i].x : Int), .slice q l c] fun j hj => by
    rw [add_mk]
    match j, hj with
    | 0, _ => simpa using c0
    | 1, _ => simpa using c1
    | 2, _ => simpa using c2
  simpa using this

def bytesF (f : Fld) : List UInt8 × Bool :=
  if f.k = 1 then (numB f.x 1, decide (f.x ≤ 255)) else if f.k = 2 then (numB f.x 2, decide (f.x ≤ 65535)) else if f.k = 3 then (numB (f.x % 4294967296) 4, true) else if f.k = 4 then (numB f.x 8, true)
  else if f.k = 5 then (numB (f.x % 2) 1, true) else if f.k = 6 then (f.b, true) else if f.k = 7 then (if 8192 < f.b.length then ([], false) else (numB f.b.length 2 ++ f.b, true)) else if f.k = 8 then (numB f.x 2, decide (f.x ≤ 4096)) else ([], true)
end Go.Proofs.YthlmiijlhiiccaaGreat
/- Slices of bytes that are read; numbers in bytes. -/
set_option linter.unusedVariables false
namespace Go.Proofs.YthlmiijlhiiccaaGreat
open Go Go.Vc Go.Proofs
theorem Bs.take {h : Heap} {p : Option Addr} {l n : Nat} {bs : List UInt8} (hb : Bs h p l bs) (hn : n ≤ l) : Bs h p n (bs.take n) := by
  have hl := hb.1
  refine ⟨by simp; omega, by simp; omega, ?_⟩
  by_cases hz : n = 0
  · subst hz; simp [src_zero]
  · obtain ⟨a, rfl, _⟩ := hb.cell (i := 0) (by omega)
    have := row_of (h := h) (a := a) ((bs.take n).map bv) fun j hj => by
      have hj' : j < n := by simp at hj; omega
      obtain ⟨a', e, hc⟩ := hb.cell (i := j) (by omega)
      cases e
      rw [hc]
      simp
    simp only [List.length_map, List.length_take, Nat.min_eq_left (show n ≤ bs.length by omega)] at this
    simpa [src] using this
theorem Bs.drop {h : Heap} {p : Option Addr} {l c n : Nat} {bs : List UInt8} (hb : Bs h p l bs) (hn : n ≤ l) : Bs h (if c = n then p else p.map fun a => a.add (n * 1)) (l - n) (bs.drop n) ∨ c = n := by
  have hl := hb.1
  by_cases hcn : c = n
  · exact .inr hcn
  refine .inl ?_
  rw [if_neg hcn]
  refine ⟨by simp; omega, by simp; omega, ?_⟩
  by_cases hz : l - n = 0
  · have : bs.drop n = [] := List.drop_of_length_le (by omega)
    rw [hz, this]; simp [src_zero]
  · obtain ⟨a, rfl, h0⟩ := hb.cell (i := 0) (by omega)
    have hsp : a.spot = none := by
      have := spot_none h0
      simpa [Addr.add] using this
    have := row_of (h := h) (a := a.add n) ((bs.drop n).map bv) fun j hj => by
      have hj' : n + j < bs.length := by simp at hj; omega
      obtain ⟨a', e, hc⟩ := hb.cell (i := n + j) hj'
      cases e
      rw [add_add _ _ _ hsp, hc]
      simp
    simp only [List.length_map, List.length_drop, hl] at this
    simpa [src, Nat.mul_one] using this
theorem Bs.rest {h : Heap} {p : Option Addr} {l c n : Nat} {bs : List UInt8} (hb : Bs h p l bs) (hn : n ≤ l) (hc : l ≤ c) : Bs h (if c = n then p else p.map fun a => a.add (n * 1)) (l - n) (bs.drop n) := by
  rcases Bs.drop (c := c) hb hn with h1 | h1
  · exact h1
  · have hl := hb.1
    have e1 : l - n = 0 := by omega
    have e2 : bs.drop n = [] := List.drop_of_length_le (by omega)
    rw [e1, e2]
    exact ⟨rfl, by simp, by simp [src_zero]⟩
theorem sliceP_to {p : Option Addr} {c n : Nat} {K : Option Addr → Nat → Nat → Prop} (hn : n ≤ c) (hk : K p n c) : sliceP 1 p 0 (n : Int) (c : Int) c K := by
  refine ⟨by omega, by omega, by omega, by omega, ?_⟩
  simp only [Int.toNat_natCast, Int.toNat_zero, Nat.sub_zero]
  rw [map_add0]
  exact hk
theorem sliceP_from {p : Option Addr} {l c n : Nat} {K : Option Addr → Nat → Nat → Prop} (hn : n ≤ l) (hc : l ≤ c) (hk : K (if c = n then p else p.map fun a => a.add (n * 1)) (l - n) (c - n)) : sliceP 1 p (n : Int) (l : Int) (c : Int) c K := by
  refine ⟨by omega, by omega, by omega, by omega, ?_⟩
  simp only [Int.toNat_natCast]
  exact hk
theorem sliceP_mid {p : Option Addr} {l c n m : Nat} {K : Option Addr → Nat → Nat → Prop} (hn : n ≤ m) (hm : m ≤ l) (hc : l ≤ c) (hk : K (if c = n then p else p.map fun a => a.add (n * 1)) (m - n) (c - n)) : sliceP 1 p (n : Int) (m : Int) (c : Int) c K := by
  refine ⟨by omega, by omega, by omega, by omega, ?_⟩
  simp only [Int.toNat_natCast]
  exact hk
theorem Bs.mid {h : Heap} {p : Option Addr} {l c n m : Nat} {bs : List UInt8} (hb : Bs h p l bs) (hn : n ≤ m) (hm : m ≤ l) (hc : l ≤ c) : Bs h (if c = n then p else p.map fun a => a.add (n * 1)) (m - n) ((bs.drop n).take (m - n)) :=
  Bs.take (Bs.rest hb (by omega) hc) (by omega)

end Go.Proofs.YthlmiijlhiiccaaGreat
