/- The writer of layer 1: what each of its functions does to the part of memory that it owns. -/
import Derived.Test.YtkeggnfffnodmaaFa
import Derived.Test.YtkeggnfffnodmaaSq
import Derived.Test.Ytkeggnfffnodmaa0a
set_option linter.unusedVariables false
namespace Go.Proofs.Ytkeggnfffnodmaa
open Go Go.Vc Go.Proofs

/-- A writer at block b: what was put, and whether it is spoiled. -/
def W (b : Nat) (bs : List UInt8) (sp : Bool) : HP := fun m => ∃ p l c, star [pts b 0 false [.slice p l c, .bool sp], own 1 p l c (bcs bs)] m
theorem W.op {h0 h : Heap} {F : List HP} {b : Nat} {bs : List UInt8} {sp : Bool} (hs : St h0 h (W b bs sp :: F)) : ∃ p l c, St h0 h (pts b 0 false [.slice p l c, .bool sp] :: own 1 p l c (bcs bs) :: F) := by
  obtain ⟨e, m, ⟨m1, m2, a, b', c', ⟨p, l, c, q⟩, s⟩, t, u⟩ := hs
  exact ⟨p, l, c, e, m, star_flat ⟨m1, m2, a, b', c', q, s⟩, t, u⟩
theorem W.cl {h0 h : Heap} {F : List HP} {b : Nat} {bs : List UInt8} {sp : Bool} {p : Option Addr} {l c : Nat} (hs : St h0 h (pts b 0 false [.slice p l c, .bool sp] :: own 1 p l c (bcs bs) :: F)) : St h0 h (W b bs sp :: F) :=
  (St.pack (l := [_, _]) hs).impl fun m q => ⟨p, l, c, q⟩
theorem W.at {h : Heap} {b : Nat} {bs : List UInt8} {sp : Bool} (a : At h (W b bs sp)) : ∃ p l c, At h (pts b 0 false [.slice p l c, .bool sp]) ∧ Bs h p l bs := by
  obtain ⟨m, s, p, l, c, m1, m2, a1, a2, c', q1, m3, m4, b1, b2, c'', q2, _⟩ := a
  exact ⟨p, l, c, ⟨m1, s.le a1, q1⟩, bs_own (c := c) ⟨m3, s.le (b1.trans a2), q2⟩⟩
theorem owns_W {b : Nat} {bs : List UInt8} {sp : Bool} : Owns (W b bs sp) := fun m ⟨p, l, c, q⟩ => ⟨p, l, c, owns_star (l := [_, _]) ⟨owns_pts, owns_own, trivial⟩ m q⟩
theorem W.len {h0 h : Heap} {F : List HP} {b : Nat} {bs : List UInt8} {sp : Bool} (hs : St h0 h (W b bs sp :: F)) : bs.length ≤ maxLen := by
  obtain ⟨p, l, c, hs⟩ := W.op hs
  have := hs.up1.len
  rw [bcs_length] at this
  omega


/-- A digit of a number, by the power of 256. -/
def dg (x : Nat) (i : Nat) : UInt8 := UInt8.ofNat (x / 256 ^ i)
/-- A number in n bytes, the most significant first. -/
def numB (x : Nat) : Nat → List UInt8
  | 0 => []
  | n + 1 => dg x n :: numB x n
theorem numB_length (x : Nat) : ∀ n, (numB x n).length = n
  | 0 => rfl
  | n + 1 => by simp [numB, numB_length x n]
theorem shift_byte (x k : Nat) (hk : k ≤ 7) : Value.int .u8 (IntKind.wrap .u8 (shrI .u64 (x : Int) (IntKind.wrap .i64 ((8 : Int) * (k : Int))))) = bv (dg x k) := by
  rw [wrap_i64 (by omega) (by omega), wrap_u8, dg, byte_of_int]
  congr 1
  have e : ((8 : Int) * (k : Int)) = ((8 * k : Nat) : Int) := by omega
  rw [e, shrI_nat _ _ _ (show 8 * k ≤ 64 by omega), show (256 : Nat) = 2 ^ 8 from rfl, ← Nat.pow_mul]
  omega

/-- What a put does: nothing once spoiled; else the bytes, or it is spoiled. -/
def putS (bs : List UInt8) (sp : Bool) (o : Option (List UInt8)) : List UInt8 × Bool :=
  match sp, o with
  | false, some xs => (bs ++ xs, false)
  | _, _ => (bs, true)
/-- Memory behind a put. -/
def Put (h0 : Heap) (F : List HP) (b : Nat) (bs : List UInt8) (sp : Bool) (o : Option (List UInt8)) (v : Value) (h' : Heap) : Prop :=
  v = unit ∧ St h0 h' (W b (putS bs sp o).1 (putS bs sp o).2 :: F)

section
variable {h0 h : Heap} {F : List HP} {b : Nat} {bs : List UInt8} {sp : Bool}

theorem number_put (hs : St h0 h (W b bs sp :: F)) (x n : Nat) (hn : n ≤ 8) (hl : bs.length + n ≤ 70368744177664) :
    CallsH Try.prog n_wire_Writer_number #[ptr b, .int .u64 x, .int .i64 n] h (Put h0 F b bs sp (some (numB x n))) := by
  refine C_wire_Writer_number (some (Addr.mk b 0 none)) x n ?_
  unfold F_wire_Writer_number
  simp only [Option.isNone_some, br_false, deref_some, add_mk, Nat.add_zero, Nat.zero_add]
  obtain ⟨p, l, c, hs⟩ := W.op hs
  refine ⟨sp, hs.cell0 rfl, ?_⟩
  cases sp
  · refine br_no rfl ⟨fun i h' => ∃ (k : Nat) (dn : List UInt8), i = (k : Int) - 1 ∧ k ≤ n ∧ dn ++ numB x k = numB x n ∧ St h0 h' (W b (bs ++ dn) false :: F), fun i _ => (i + 1).toNat, ⟨n, [], ?_, Nat.le_refl _, rfl, ?_⟩, ?_⟩
    · rw [wrap_i64 (by omega) (by omega)]
    · rw [List.append_nil]; exact W.cl hs
    intro i h5 hI
    obtain ⟨k, dn, hi, hk, hdn, hs⟩ := hI
    subst hi
    rw [br_decide]
    refine ⟨fun hge => ?_, fun hlt => ?_⟩
    · obtain ⟨k, rfl⟩ : ∃ j, k = j + 1 := ⟨k - 1, by omega⟩
      have ek : ((k + 1 : Nat) : Int) - 1 = (k : Int) := by omega
      rw [ek]
      obtain ⟨p, l, c, hs⟩ := W.op hs
      refine ⟨p, l, c, hs.cell0 rfl, by rw [wrap_i64 (by omega) (by omega)]; omega, ?_⟩
      rw [shift_byte x k (by omega)]
      have hlen := hs.up1.len
      rw [bcs_length, List.length_append] at hlen
      have hdl : dn.length + (k + 1) = n := by
        have := congrArg List.length hdn
        simpa [numB_length] using this
      refine hs.newBlk fun b6 h6 _ hs e6 => ?_
      refine St.append (xs := [bv (dg x k)]) hs.up2 ⟨rfl, by simp only [src, Nat.one_mul]; exact hs.row0 rfl⟩ (by simp [bv_one]) rfl (by omega) (by unfold maxLen; omega) fun p' c' h7 hs _ => ?_
      refine hs.up2.store0 (by simp) rfl fun h8 hs => ?_
      rw [wrap_i64 (by omega) (by omega)]
      refine ⟨⟨k, dn ++ [dg x k], rfl, by omega, by rw [← hdn, numB]; simp, W.cl (p := p') (l := l + 1) (c := c') ?_⟩, by show ((k : Int) - 1 + 1).toNat < ((k : Int) + 1).toNat; omega⟩
      have e : bcs (bs ++ (dn ++ [dg x k])) = bcs (bs ++ dn) ++ [bv (dg x k)] := by simp [bcs, bv]
      rw [e]
      exact hs.up2.drop
    · have : k = 0 := by omega
      subst this
      simp only [numB, List.append_nil] at hdn
      subst hdn
      exact ⟨rfl, hs⟩
  · exact br_yes rfl ⟨rfl, W.cl hs⟩

theorem within_put (hs : St h0 h (W b bs sp :: F)) (x m : Int) :
    CallsH Try.prog n_wire_Writer_within #[ptr b, .int .i64 x, .int .i64 m] h fun v h' => v = .bool (!(sp || decide (x < 0 ∨ m < x))) ∧ St h0 h' (W b bs (sp || decide (x < 0 ∨ m < x)) :: F) := by
  refine C_wire_Writer_within (some (Addr.mk b 0 none)) x m ?_
  unfold F_wire_Writer_within
  simp only [Option.isNone_some, br_false, deref_some, add_mk, Nat.zero_add]
  obtain ⟨p, l, c, hs⟩ := W.op hs
  have bad : ∀ (hx : x < 0 ∨ m < x), storeP none h (Addr.mk b 1 none) (Value.bool true) fun h1 =>
      ∃ t3, cell h1 (Addr.mk b 1 none) = some (Value.bool t3) ∧ (Value.bool (!t3) = Value.bool (!(sp || decide (x < 0 ∨ m < x))) ∧ St h0 h1 (W b bs (sp || decide (x < 0 ∨ m < x)) :: F)) := by
    intro hx
    refine hs.store0 (by simp) rfl fun h5 hs => ⟨true, hs.cell0 rfl, ?_⟩
    have hd : decide (x < 0 ∨ m < x) = true := by simpa using hx
    rw [hd, Bool.or_true]
    exact ⟨rfl, W.cl hs⟩
  rw [br_decide]
  refine ⟨fun hx => bad (.inl hx), fun hx => ?_⟩
  rw [br_decide]
  refine ⟨fun hx => bad (.inr hx), fun hx' => ?_⟩
  have hd : decide (x < 0 ∨ m < x) = false := by simp; omega
  rw [hd, Bool.or_false]
  exact ⟨sp, hs.cell0 rfl, rfl, W.cl hs⟩

/-- A number that must lie within a bound. -/
theorem bounded_put (hs : St h0 h (W b bs sp :: F)) (x : Int) (m : Nat) (n : Nat) (hn : n ≤ 8) (hl : bs.length + n ≤ 70368744177664) (hm : m < 18446744073709551616)
    {R : Value → Heap → Prop} (hR : ∀ v h', Put h0 F b bs sp (if 0 ≤ x ∧ x ≤ m then some (numB x.toNat n) else none) v h' → R v h') :
    CallsH Try.prog n_wire_Writer_within #[ptr b, .int .i64 x, .int .i64 m] h fun v0 h1 => ∃ t2, v0 = .bool t2 ∧
      br t2 (CallsH Try.prog n_wire_Writer_number #[ptr b, .int .u64 (IntKind.wrap .u64 x), .int .i64 n] h1 fun v3 h4 => v3 = unit ∧ R unit h4) (R unit h1) := by
  refine (within_put hs x m).mono fun v h1 ⟨hv, hs1⟩ => ⟨_, hv, ?_⟩
  clear hs
  have hs := hs1
  clear hs1
  by_cases hx : 0 ≤ x ∧ x ≤ m
  · have hd : decide (x < 0 ∨ (m : Int) < x) = false := by simp; omega
    rw [hd, Bool.or_false] at hs ⊢
    have hxw : IntKind.wrap .u64 x = (x.toNat : Int) := by rw [wrap_u64, Int.emod_eq_of_lt hx.1 (by omega)]; omega
    rw [hxw]
    cases sp
    · exact br_yes rfl ((number_put hs x.toNat n hn hl).mono fun v h4 ⟨hv, hs⟩ => ⟨hv, hR _ _ ⟨rfl, by rw [if_pos hx]; exact hs⟩⟩)
    · exact br_no rfl (hR _ _ ⟨rfl, by rw [if_pos hx]; exact hs⟩)
  · have hd : decide (x < 0 ∨ (m : Int) < x) = true := by simp; omega
    rw [hd, Bool.or_true] at hs ⊢
    refine br_no rfl (hR _ _ ⟨rfl, ?_⟩)
    rw [if_neg hx]
    cases sp <;> exact hs

theorem u64_put (hs : St h0 h (W b bs sp :: F)) (x : Nat) (hl : bs.length + 8 ≤ 70368744177664) :
    CallsH Try.prog n_wire_Writer_U64 #[ptr b, .int .u64 x] h (Put h0 F b bs sp (some (numB x 8))) := by
  refine C_wire_Writer_U64 (some (Addr.mk b 0 none)) x ?_
  unfold F_wire_Writer_U64
  exact (number_put hs x 8 (by omega) hl).mono fun v h' hh => ⟨hh.1, rfl, hh.2⟩
theorem plain_put {xs : List UInt8} {p : Option Addr} {l c : Nat} (hs : St h0 h (W b bs sp :: F)) (hx : Bs h p l xs) (hl : bs.length + xs.length ≤ 70368744177664) :
    CallsH Try.prog n_wire_Writer_Plain #[ptr b, .slice p l c] h (Put h0 F b bs sp (some xs)) := by
  refine C_wire_Writer_Plain (some (Addr.mk b 0 none)) p l c ?_
  unfold F_wire_Writer_Plain
  simp only [Option.isNone_some, Bool.not_false, br_true, deref_some, add_mk, Nat.zero_add, Nat.add_zero]
  obtain ⟨q, ql, qc, hs⟩ := W.op hs
  refine ⟨sp, hs.cell0 rfl, ?_⟩
  rw [br_not]
  cases sp
  · refine br_no rfl ⟨q, ql, qc, hs.cell0 rfl, ?_⟩
    have hlen := hs.up1.len
    rw [bcs_length] at hlen
    have hxl := hx.1
    refine hs.up1.append hx.2 (bvs_one xs) rfl (by omega) (by unfold maxLen; omega) fun p' c' h7 hs _ => ?_
    refine hs.up1.store0 (by simp) rfl fun h8 hs => ⟨rfl, W.cl (p := p') (l := ql + l) (c := c') ?_⟩
    have e : bcs (bs ++ xs) = bcs bs ++ xs.map bv := bcs_append bs xs
    simp only [putS, e]
    exact hs
  · exact br_yes rfl ⟨rfl, W.cl hs⟩
theorem string_put {xs : List UInt8} {p : Option Addr} {l c : Nat} (hs : St h0 h (W b bs sp :: rdo 1 p l (bcs xs) :: F)) (hl : bs.length + xs.length + 2 ≤ 70368744177664) :
    CallsH Try.prog n_wire_Writer_String #[ptr b, .slice p l c] h (Put h0 (rdo 1 p l (bcs xs) :: F) b bs sp (if xs.length ≤ 8192 then some (numB xs.length 2 ++ xs) else none)) := by
  refine C_wire_Writer_String (some (Addr.mk b 0 none)) p l c ?_
  unfold F_wire_Writer_String
  have hxl := (bs_rdo hs.up1.at).1
  refine (within_put hs l 8192).mono fun v h1 ⟨hv, hs1⟩ => ⟨_, hv, ?_⟩
  clear hs
  have hs := hs1
  clear hs1
  by_cases hx8 : xs.length ≤ 8192
  · have hd : decide ((l : Int) < 0 ∨ 8192 < (l : Int)) = false := by simp; omega
    rw [hd, Bool.or_false] at hs ⊢
    rw [if_pos hx8]
    have hlw : IntKind.wrap .u64 (l : Int) = ((l : Nat) : Int) := by rw [wrap_u64]; omega
    rw [hlw]
    cases sp
    · refine br_yes rfl ((number_put hs l 2 (by omega) (by omega)).mono fun v h4 ⟨hv, hs⟩ => ⟨hv, ?_⟩)
      simp only [putS] at hs
      refine (plain_put (c := c) hs (bs_rdo hs.up1.at) (by simp [numB_length]; omega)).mono fun v h6 ⟨hv, hs⟩ => ⟨hv, rfl, ?_⟩
      simp only [putS, List.append_assoc, hxl] at hs ⊢
      exact hs
    · exact br_no rfl ⟨rfl, hs⟩
  · have hd : decide ((l : Int) < 0 ∨ 8192 < (l : Int)) = true := by simp; omega
    rw [hd, Bool.or_true] at hs ⊢
    rw [if_neg hx8]
    refine br_no rfl ⟨rfl, ?_⟩
    cases sp <;> exact hs

theorem out_ok (hw : At h (W b bs sp)) (hl : bs.length ≤ 70368744177664) :
    CallsH Try.prog n_wire_Writer_Out #[ptr b] h fun v h' => ∃ p' l' c', v = .tuple #[.slice p' l' c', .int .i64 (if sp then 4 else 0)] ∧ New h h' [own 1 p' l' c' (bcs (if sp then [] else bs))] := by
  refine C_wire_Writer_Out (some (Addr.mk b 0 none)) ?_
  unfold F_wire_Writer_Out
  simp only [Option.isNone_some, br_false, deref_some, add_mk, Nat.zero_add, Nat.add_zero]
  obtain ⟨p, l, c, h1, h2⟩ := W.at hw
  refine ⟨sp, pts_cell h1 (i := 1) rfl, ?_⟩
  cases sp
  · refine br_no rfl ⟨p, l, c, pts_cell h1 (i := 0) rfl, ?_⟩
    refine (clone_ok h2 (by have := h2.1; omega)).mono fun v h' ⟨p', l', c', hv, n⟩ => ⟨n.ext, p', l', c', hv, p', l', c', by simp, n⟩
  · exact br_yes rfl ⟨none, 0, 0, by simp, ((St.start h).nil 1).new ⟨owns_own, trivial⟩⟩
end
/-- A writer is made. -/
theorem W.mk {h0 h : Heap} {F : List HP} {b : Nat} (hs : St h0 h (pts b 0 false [.slice none 0 0, .bool false] :: F)) : St h0 h (W b [] false :: F) := W.cl (p := none) (l := 0) (c := 0) (hs.nil 1).up1

end Go.Proofs.Ytkeggnfffnodmaa
