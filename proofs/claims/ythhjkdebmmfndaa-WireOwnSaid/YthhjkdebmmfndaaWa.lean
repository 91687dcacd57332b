/- The writer of layer 1: what each of its functions does, over heaps. -/
import Derived.Test.YthhjkdebmmfndaaFa
import Derived.Test.YthhjkdebmmfndaaHp
set_option linter.unusedVariables false
namespace Go.Proofs.Ythhjkdebmmfndaa
open Go Go.Vc Go.Proofs


/-- A writer at block b: what was put, and whether it is spoiled; S: its blocks. -/
def W (h : Heap) (b : Nat) (bs : List UInt8) (sp : Bool) (S : Nat → Prop) : Prop :=
  ∃ p l c, Blk h b #[.slice p l c, .bool sp] ∧ Own h 1 p l c (bs.map bv) ∧ ¬ inBlk p b ∧ (∀ x, S x ↔ x = b ∨ inBlk p x)

theorem W.lt {h : Heap} {b : Nat} {bs : List UInt8} {sp : Bool} {S : Nat → Prop} (hw : W h b bs sp S) {x : Nat} (hx : S x) : x < h.size := by
  obtain ⟨p, l, c, h1, h2, h3, h4⟩ := hw
  rcases (h4 x).1 hx with rfl | hx
  · exact h1.lt
  · exact h2.lt hx
theorem W.only {h h' : Heap} {b : Nat} {bs : List UInt8} {sp : Bool} {S T : Nat → Prop} (hw : W h b bs sp S) (o : Only T h h') (hd : ∀ x, S x → ¬ T x) : W h' b bs sp S := by
  obtain ⟨p, l, c, h1, h2, h3, h4⟩ := hw
  exact ⟨p, l, c, h1.only o (hd b ((h4 b).2 (.inl rfl))), h2.only o (fun x hx => hd x ((h4 x).2 (.inr hx))), h3, h4⟩
theorem W.ext {h h' : Heap} {b : Nat} {bs : List UInt8} {sp : Bool} {S : Nat → Prop} (hw : W h b bs sp S) (o : Ext h h') : W h' b bs sp S :=
  hw.only (o.only fun _ => False) fun _ _ h => h

abbrev ptr (b : Nat) : Value := .pointer (some (Addr.mk b 0 none))
abbrev unit : Value := .tuple #[]

/-- A digit of a number, by the power of 256. -/
def dg (x : Nat) (i : Nat) : UInt8 := UInt8.ofNat (x / 256 ^ i)
/-- A number in n bytes, the most significant first. -/
def numB (x : Nat) : Nat → List UInt8
  | 0 => []
  | n + 1 => dg x n :: numB x n
theorem numB_length (x : Nat) : ∀ n, (numB x n).length = n
  | 0 => rfl
  | n + 1 => by simp [numB, numB_length x n]

theorem shift_byte (x k : Nat) (hk : k ≤ 7) : Value.int .u8 (IntKind.wrap .u8 (shrI .u64 (x : Int) (IntKind.wrap .i64 ((8 : Int) * (k : Int))))) = bv (dg x k) := by
  rw [wrap_i64 (by omega) (by omega), wrap_u8, dg, byte_of_int]
  congr 1
  unfold shrI
  have e : (8 * (k : Int)).toNat = 8 * k := by omega
  rw [e, Nat.min_eq_left (by simp [IntKind.bits]; omega)]
  have e2 : (2 : Int) ^ (8 * k) = ((256 ^ k : Nat) : Int) := by
    rw [show (256 : Nat) = 2 ^ 8 from rfl, ← Nat.pow_mul]; simp
  rw [e2]
  rw [Int.fdiv_eq_ediv_of_nonneg _ (by exact Int.natCast_nonneg _)]
  simp

theorem number_ok {h : Heap} {b : Nat} {bs : List UInt8} {S : Nat → Prop} (hw : W h b bs false S) (x n : Nat) (hn : n ≤ 8) (hl : bs.length + n ≤ 70368744177664) :
    CallsH Try.prog 108 #[ptr b, .int .u64 x, .int .i64 n] h fun v h' => v = unit ∧ ∃ S', W h' b (bs ++ numB x n) false S' ∧ Only S h h' ∧ From S S' h := by
  refine C108 (some (Addr.mk b 0 none)) x n ?_
  unfold F108
  simp only [Option.isNone_some, br_false, deref_some, add_mk]
  obtain ⟨p, l, c, h1, h2, h3, h4⟩ := id hw
  refine ⟨false, by simp [h1.cell], ?_⟩
  simp only [br_false]
  refine ⟨fun i h' => ∃ (k : Nat) (dn : List UInt8) (S' : Nat → Prop), i = (k : Int) - 1 ∧ k ≤ n ∧ dn ++ numB x k = numB x n ∧ W h' b (bs ++ dn) false S' ∧ Only S h h' ∧ From S S' h,
    fun i _ => (i + 1).toNat, ⟨n, [], S, ?_, Nat.le_refl _, rfl, by simpa using hw, Only.refl _ _, From.refl _ _⟩, ?_⟩
  · rw [wrap_i64 (by omega) (by omega)]
  rintro i h5 ⟨k, dn, S', rfl, hk, hdn, hw', ho, hf⟩
  rw [br_decide]
  refine ⟨fun hge => ?_, fun hlt => ?_⟩
  · obtain ⟨k, rfl⟩ : ∃ j, k = j + 1 := ⟨k - 1, by omega⟩
    have ek : ((k + 1 : Nat) : Int) - 1 = (k : Int) := by omega
    rw [ek]
    obtain ⟨p, l, c, h1, h2, h3, h4⟩ := hw'
    refine ⟨p, l, c, by simp [h1.cell], by rw [wrap_i64 (by omega) (by omega)]; omega, ?_⟩
    rw [shift_byte x k (by omega)]
    have hlen := h2.1
    simp only [List.length_map, List.length_append, Nat.mul_one] at hlen
    have hdl : dn.length + (k + 1) = n := by
      have := congrArg List.length hdn
      simpa [numB_length] using this
    refine newBlk_blk fun h6 b6 e6 s6 => ?_
    have hb1 := h1.ext e6
    have ho1 := h2.ext e6
    refine append_own (xs := [bv (dg x k)]) ho1 ⟨rfl, by simp only [src, Nat.one_mul]; exact row_all b6 (by rfl)⟩ (by simp [bv_one]) rfl Nat.one_pos (by omega) (by unfold maxLen; omega)
      fun p' c' h7 ho7 hon hfr _ => ?_
    have hbn : ¬ inBlk p b := h3
    have hb7 := hb1.only hon hbn
    refine storeP_blk hb7 (by simp) rfl fun h8 b8 o8 s8 => ?_
    have hp'b : ¬ inBlk p' b := fun hx => by
      rcases hfr b hx with hx | hx
      · exact hbn hx
      · have := h1.lt; omega
    have hw8 : W h8 b (bs ++ (dn ++ [dg x k])) false (fun y => y = b ∨ inBlk p' y) := by
      refine ⟨p', l + 1, c', by simpa using b8, ?_, hp'b, fun y => Iff.rfl⟩
      have := ho7.only o8 (fun y hy e => hp'b (e ▸ hy))
      simpa [List.append_assoc] using this
    have hon8 : Only S' h5 h8 := by
      refine ((e6.only S').trans hon (fun _ h => h) (fun y hy hin => (h4 y).2 (.inr hin))).trans o8 (fun _ h => h) (fun y hy e => (h4 y).2 (.inl e))
    have hfr8 : From S' (fun y => y = b ∨ inBlk p' y) h5 := by
      rintro y (rfl | hy)
      · exact .inl ((h4 y).2 (.inl rfl))
      · rcases hfr y hy with hy | hy
        · exact .inl ((h4 y).2 (.inr hy))
        · exact .inr (by omega)
    rw [wrap_i64 (by omega) (by omega)]
    refine ⟨⟨k, dn ++ [dg x k], _, rfl, by omega, ?_, hw8, ho.step hf hon8, hf.trans hfr8 ho.1⟩, by show ((k : Int) - 1 + 1).toNat < ((k : Int) + 1).toNat; omega⟩
    rw [← hdn, numB]
    simp
  · have : k = 0 := by omega
    subst this
    simp only [numB, List.append_nil] at hdn
    subst hdn
    exact ⟨by trivial, S', hw', ho, hf⟩

theorem within_ok {h : Heap} {b : Nat} {bs : List UInt8} {sp : Bool} {S : Nat → Prop} (hw : W h b bs sp S) (x m : Int) :
    CallsH Try.prog 107 #[ptr b, .int .i64 x, .int .i64 m] h fun v h' => v = .bool (!(sp || decide (x < 0 ∨ m < x))) ∧ W h' b bs (sp || decide (x < 0 ∨ m < x)) S ∧ Only S h h' := by
  refine C107 (some (Addr.mk b 0 none)) x m ?_
  unfold F107
  simp only [Option.isNone_some, br_false, deref_some, add_mk]
  obtain ⟨p, l, c, h1, h2, h3, h4⟩ := id hw
  have bad : ∀ (hx : x < 0 ∨ m < x), storeP none h (Addr.mk (Addr.mk b 0 none).block ((Addr.mk b 0 none).off + 1) none) (Value.bool true) fun h1 =>
      ∃ t3, cell h1 (Addr.mk b (0 + 1) none) = some (Value.bool t3) ∧ (Value.bool (!t3) = Value.bool (!(sp || decide (x < 0 ∨ m < x))) ∧ W h1 b bs (sp || decide (x < 0 ∨ m < x)) S ∧ Only S h h1) := by
    intro hx
    refine storeP_blk h1 (by simp) rfl fun h5 b5 o5 s5 => ⟨true, by rw [b5.cell]; simp, ?_⟩
    have hd : decide (x < 0 ∨ m < x) = true := by simpa using hx
    rw [hd, Bool.or_true]
    refine ⟨rfl, ⟨p, l, c, by simpa using b5, h2.only o5 (fun y hy e => h3 (by have e : y = b := e; subst e; exact hy)), h3, h4⟩, o5.mono fun y _ e => (h4 y).2 (.inl e)⟩
  rw [br_decide]
  refine ⟨fun hx => bad (.inl hx), fun hx => ?_⟩
  rw [br_decide]
  refine ⟨fun hx => bad (.inr hx), fun hx' => ?_⟩
  have hd : decide (x < 0 ∨ m < x) = false := by simp; omega
  rw [hd, Bool.or_false]
  exact ⟨sp, by rw [h1.cell]; simp, rfl, hw, Only.refl _ _⟩

theorem number_no {h : Heap} {b : Nat} {bs : List UInt8} {S : Nat → Prop} (hw : W h b bs true S) (x n : Int) :
    CallsH Try.prog 108 #[ptr b, .int .u64 x, .int .i64 n] h fun v h' => v = unit ∧ h' = h := by
  refine C108 (some (Addr.mk b 0 none)) x n ?_
  unfold F108
  simp only [Option.isNone_some, br_false, deref_some, add_mk]
  obtain ⟨p, l, c, h1, h2, h3, h4⟩ := id hw
  refine ⟨true, by simp [h1.cell], ?_⟩
  exact ⟨by trivial, by first | rfl | trivial⟩

/-- What a put does: nothing once spoiled; else the bytes, or it is spoiled. -/
def putS (bs : List UInt8) (sp : Bool) (o : Option (List UInt8)) : List UInt8 × Bool :=
  match sp, o with
  | false, some xs => (bs ++ xs, false)
  | _, _ => (bs, true)
/-- A writer behind a put. -/
def Put (h : Heap) (b : Nat) (bs : List UInt8) (sp : Bool) (S : Nat → Prop) (o : Option (List UInt8)) (v : Value) (h' : Heap) : Prop :=
  v = unit ∧ ∃ S', W h' b (putS bs sp o).1 (putS bs sp o).2 S' ∧ Only S h h' ∧ From S S' h

theorem number_put {h : Heap} {b : Nat} {bs : List UInt8} {sp : Bool} {S : Nat → Prop} (hw : W h b bs sp S) (x n : Nat) (hn : n ≤ 8) (hl : bs.length + n ≤ 70368744177664) :
    CallsH Try.prog 108 #[ptr b, .int .u64 x, .int .i64 n] h (Put h b bs sp S (some (numB x n))) := by
  cases sp
  · exact (number_ok hw x n hn hl).mono fun v h' hh => hh
  · exact (number_no hw x n).mono fun v h' ⟨hv, hh⟩ => by subst hh; exact ⟨hv, S, hw, Only.refl _ _, From.refl _ _⟩

/-- A number that must lie within a bound. -/
theorem bounded_put {h : Heap} {b : Nat} {bs : List UInt8} {sp : Bool} {S : Nat → Prop} (hw : W h b bs sp S) (x : Int) (m : Nat) (n : Nat) (hn : n ≤ 8) (hl : bs.length + n ≤ 70368744177664) (hm : m < 18446744073709551616)
    {R : Value → Heap → Prop} (hR : ∀ v h', Put h b bs sp S (if 0 ≤ x ∧ x ≤ m then some (numB x.toNat n) else none) v h' → R v h') :
    CallsH Try.prog 107 #[ptr b, .int .i64 x, .int .i64 m] h fun v0 h1 => ∃ t2, v0 = .bool t2 ∧
      br t2 (CallsH Try.prog 108 #[ptr b, .int .u64 (IntKind.wrap .u64 x), .int .i64 n] h1 fun v3 h4 => v3 = unit ∧ R unit h4) (R unit h1) := by
  refine (within_ok hw x m).mono fun v h1 ⟨hv, hw1, ho1⟩ => ⟨_, hv, ?_⟩
  by_cases hx : 0 ≤ x ∧ x ≤ m
  · have hd : decide (x < 0 ∨ (m : Int) < x) = false := by simp; omega
    rw [hd, Bool.or_false] at hw1 ⊢
    have hxw : IntKind.wrap .u64 x = (x.toNat : Int) := by rw [wrap_u64, Int.emod_eq_of_lt hx.1 (by omega)]; omega
    rw [hxw]
    cases sp
    · refine br_yes rfl ((number_put hw1 x.toNat n hn hl).mono fun v h4 ⟨hv, S', hw4, ho4, hf4⟩ => ⟨hv, hR _ _ ⟨rfl, S', ?_, ?_, ?_⟩⟩)
      · rw [if_pos hx]; exact hw4
      · exact ho1.trans ho4 (fun _ h => h) (fun _ _ h => h)
      · exact fun y hy => (hf4 y hy).imp id (fun hh => Nat.le_trans ho1.1 hh)
    · exact br_no rfl (hR _ _ ⟨rfl, S, by rw [if_pos hx]; exact hw1, ho1, From.refl _ _⟩)
  · have hd : decide (x < 0 ∨ (m : Int) < x) = true := by simp; omega
    rw [hd, Bool.or_true] at hw1 ⊢
    refine br_no rfl (hR _ _ ⟨rfl, S, ?_, ho1, From.refl _ _⟩)
    rw [if_neg hx]
    cases sp <;> exact hw1

theorem u8_put {h : Heap} {b : Nat} {bs : List UInt8} {sp : Bool} {S : Nat → Prop} (hw : W h b bs sp S) (x : Int) (hl : bs.length + 1 ≤ 70368744177664) :
    CallsH Try.prog 39 #[ptr b, .int .i64 x] h (Put h b bs sp S (if 0 ≤ x ∧ x ≤ 255 then some (numB x.toNat 1) else none)) :=
  C39 (some (Addr.mk b 0 none)) x (bounded_put hw x 255 1 (by omega) hl (by omega) fun _ _ h => h)
theorem u16_put {h : Heap} {b : Nat} {bs : List UInt8} {sp : Bool} {S : Nat → Prop} (hw : W h b bs sp S) (x : Int) (hl : bs.length + 2 ≤ 70368744177664) :
    CallsH Try.prog 40 #[ptr b, .int .i64 x] h (Put h b bs sp S (if 0 ≤ x ∧ x ≤ 65535 then some (numB x.toNat 2) else none)) :=
  C40 (some (Addr.mk b 0 none)) x (bounded_put hw x 65535 2 (by omega) hl (by omega) fun _ _ h => h)
theorem count_put {h : Heap} {b : Nat} {bs : List UInt8} {sp : Bool} {S : Nat → Prop} (hw : W h b bs sp S) (x : Int) (hl : bs.length + 2 ≤ 70368744177664) :
    CallsH Try.prog 41 #[ptr b, .int .i64 x] h (Put h b bs sp S (if 0 ≤ x ∧ x ≤ 4096 then some (numB x.toNat 2) else none)) :=
  C41 (some (Addr.mk b 0 none)) x (bounded_put hw x 4096 2 (by omega) hl (by omega) fun _ _ h => h)
theorem u32_put {h : Heap} {b : Nat} {bs : List UInt8} {sp : Bool} {S : Nat → Prop} (hw : W h b bs sp S) (x : Nat) (hx : x < 4294967296) (hl : bs.length + 4 ≤ 70368744177664) :
    CallsH Try.prog 104 #[ptr b, .int .u32 x] h (Put h b bs sp S (some (numB x 4))) := by
  refine C104 (some (Addr.mk b 0 none)) x ?_
  unfold F104
  have hxw : IntKind.wrap .u64 (x : Int) = (x : Int) := by rw [wrap_u64, Int.emod_eq_of_lt (by omega) (by omega)]
  rw [hxw]
  exact (number_put hw x 4 (by omega) hl).mono fun v h' hh => ⟨hh.1, rfl, hh.2⟩
theorem u64_put {h : Heap} {b : Nat} {bs : List UInt8} {sp : Bool} {S : Nat → Prop} (hw : W h b bs sp S) (x : Nat) (hl : bs.length + 8 ≤ 70368744177664) :
    CallsH Try.prog 105 #[ptr b, .int .u64 x] h (Put h b bs sp S (some (numB x 8))) := by
  refine C105 (some (Addr.mk b 0 none)) x ?_
  unfold F105
  exact (number_put hw x 8 (by omega) hl).mono fun v h' hh => ⟨hh.1, rfl, hh.2⟩
theorem flag_put {h : Heap} {b : Nat} {bs : List UInt8} {sp : Bool} {S : Nat → Prop} (hw : W h b bs sp S) (t : Bool) (hl : bs.length + 1 ≤ 70368744177664) :
    CallsH Try.prog 101 #[ptr b, .bool t] h (Put h b bs sp S (some (numB (if t then 1 else 0) 1))) := by
  refine C101 (some (Addr.mk b 0 none)) t ?_
  unfold F101
  cases t
  · exact br_no rfl ((number_put hw 0 1 (by omega) hl).mono fun v h' hh => ⟨hh.1, rfl, hh.2⟩)
  · exact br_yes rfl ((number_put hw 1 1 (by omega) hl).mono fun v h' hh => ⟨hh.1, rfl, hh.2⟩)

theorem plain_put {h : Heap} {b : Nat} {bs xs : List UInt8} {sp : Bool} {S : Nat → Prop} {p : Option Addr} {l c : Nat} (hw : W h b bs sp S) (hx : Bs h p l xs) (hl : bs.length + xs.length ≤ 70368744177664) :
    CallsH Try.prog 30 #[ptr b, .slice p l c] h (Put h b bs sp S (some xs)) := by
  refine C30 (some (Addr.mk b 0 none)) p l c ?_
  unfold F30
  simp only [Option.isNone_some, Bool.not_false, br_true, deref_some, add_mk]
  obtain ⟨q, ql, qc, h1, h2, h3, h4⟩ := id hw
  refine ⟨sp, by simp [h1.cell], ?_⟩
  rw [br_not]
  cases sp
  · simp only [br_false]
    refine ⟨q, ql, qc, by simp [h1.cell], ?_⟩
    have hlen := h2.1
    simp only [List.length_map, Nat.mul_one] at hlen
    have hxl := hx.1
    refine append_own h2 hx.2 (bvs_one xs) rfl Nat.one_pos (by omega) (by unfold maxLen; omega) fun p' c' h7 ho7 hon hfr _ => ?_
    refine storeP_blk (h1.only hon h3) (by simp) rfl fun h8 b8 o8 s8 => ?_
    have hp'b : ¬ inBlk p' b := fun hx => by
      rcases hfr b hx with hx | hx
      · exact h3 hx
      · have := h1.lt; omega
    refine ⟨rfl, fun y => y = b ∨ inBlk p' y, ⟨p', ql + l, c', by simpa [putS] using b8, ?_, hp'b, fun y => Iff.rfl⟩, ?_, ?_⟩
    · have := ho7.only o8 (fun y hy e => hp'b (e ▸ hy))
      simpa [putS] using this
    · exact (hon.mono (T := S) fun y hy hin => (h4 y).2 (.inr hin)).trans o8 (fun _ h => h) (fun y hy e => (h4 y).2 (.inl e))
    · rintro y (rfl | hy)
      · exact .inl ((h4 y).2 (.inl rfl))
      · rcases hfr y hy with hy | hy
        · exact .inl ((h4 y).2 (.inr hy))
        · exact .inr hy
  · simp only [br_true]
    exact ⟨rfl, S, hw, Only.refl _ _, From.refl _ _⟩

end Go.Proofs.Ythhjkdebmmfndaa
