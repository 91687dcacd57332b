/- Clone, Out, String; the reader; the laws' awake. -/
import Derived.Test.YthhjkdebmmfndaaWa
import Derived.Test.YthhjkdebmmfndaaHq
set_option linter.unusedVariables false
namespace Go.Proofs.Ythhjkdebmmfndaa
open Go Go.Vc Go.Proofs

/-- The blocks of a slice are all new. -/
def New (p : Option Addr) (h : Heap) : Prop := ∀ x, inBlk p x → h.size ≤ x
theorem New.none (h : Heap) : New none h := fun x ⟨o, e⟩ => by cases e

theorem clone_ok {h : Heap} {p : Option Addr} {l c : Nat} {xs : List UInt8} (hx : Bs h p l xs) (hl : l ≤ 70368744177664) :
    CallsH Try.prog 102 #[.slice p l c] h fun v h' => ∃ p' l' c', v = .slice p' l' c' ∧ Own h' 1 p' l' c' (xs.map bv) ∧ Ext h h' ∧ New p' h := by
  refine C102 p l c ?_
  unfold F102
  cases p with
  | none =>
    refine br_yes rfl ⟨none, 0, 0, rfl, ?_, Ext.refl _, New.none _⟩
    have hz := hx.2.2
    simp [src] at hz
    subst hz
    exact Own.nil _ _
  | some a =>
    refine br_no rfl (newBlk_blk fun h1 b1 e1 s1 => ?_)
    have o0 : Own h1 1 (some (Addr.mk h.size 0 none)) 0 0 [] := ⟨rfl, Nat.le_refl _, by unfold maxLen; omega, .inr ⟨h.size, 0, #[], rfl, b1, by simp, rfl⟩⟩
    refine append_own o0 (hx.2.ext e1) (bvs_one xs) rfl Nat.one_pos (by omega) (by unfold maxLen; omega) fun p' c' h' ho hon hfr _ => ?_
    refine ⟨p', 0 + l, c', rfl, by simpa using ho, ?_, fun x hx => ?_⟩
    · exact fun b hb => (hon.2 b (by omega) (fun hin => by obtain ⟨o, e⟩ := hin; cases e; omega)).trans (e1 b hb)
    · rcases hfr x hx with hx | hx
      · obtain ⟨o, e⟩ := hx; cases e; omega
      · omega

theorem W.len {h : Heap} {b : Nat} {bs : List UInt8} {sp : Bool} {S : Nat → Prop} (hw : W h b bs sp S) : bs.length ≤ maxLen := by
  obtain ⟨p, l, c, h1, h2, h3, h4⟩ := hw
  have := h2.len; have := h2.2.1; have := h2.2.2.1
  omega

theorem out_ok {h : Heap} {b : Nat} {bs : List UInt8} {sp : Bool} {S : Nat → Prop} (hw : W h b bs sp S) (hl : bs.length ≤ 70368744177664) :
    CallsH Try.prog 31 #[ptr b] h fun v h' => ∃ p' l' c', v = .tuple #[.slice p' l' c', .int .i64 (if sp then 4 else 0)] ∧ Own h' 1 p' l' c' ((if sp then [] else bs).map bv) ∧ Ext h h' ∧ New p' h := by
  refine C31 (some (Addr.mk b 0 none)) ?_
  unfold F31
  simp only [Option.isNone_some, br_false, deref_some, add_mk]
  obtain ⟨p, l, c, h1, h2, h3, h4⟩ := id hw
  refine ⟨sp, by simp [h1.cell], ?_⟩
  cases sp
  · refine br_no rfl ⟨p, l, c, by simp [h1.cell], ?_⟩
    refine (clone_ok h2.bs (by have := h2.len; omega)).mono fun v h' ⟨p', l', c', hv, ho, he, hn⟩ => ⟨he, p', l', c', hv, p', l', c', by simp, by simpa using ho, he, hn⟩
  · exact br_yes rfl ⟨none, 0, 0, by simp, Own.nil _ _, Ext.refl _, New.none _⟩
theorem out_nil (h : Heap) : CallsH Try.prog 31 #[.pointer none] h fun v h' => v = .tuple #[.slice none 0 0, .int .i64 1] ∧ h' = h := by
  refine C31 none ?_
  unfold F31
  exact br_yes rfl ⟨rfl, rfl⟩

theorem string_put {h : Heap} {b : Nat} {bs xs : List UInt8} {sp : Bool} {S : Nat → Prop} {p : Option Addr} {l c : Nat} (hw : W h b bs sp S) (hx : Bs h p l xs) (hd : ∀ a, p = some a → ¬ S a.block) (hl : bs.length + xs.length + 2 ≤ 70368744177664) :
    CallsH Try.prog 42 #[ptr b, .slice p l c] h (Put h b bs sp S (if xs.length ≤ 8192 then some (numB xs.length 2 ++ xs) else none)) := by
  refine C42 (some (Addr.mk b 0 none)) p l c ?_
  unfold F42
  have hxl := hx.1
  refine (within_ok hw l 8192).mono fun v h1 ⟨hv, hw1, ho1⟩ => ⟨_, hv, ?_⟩
  by_cases hx8 : xs.length ≤ 8192
  · have hd' : decide ((l : Int) < 0 ∨ 8192 < (l : Int)) = false := by simp; omega
    rw [hd', Bool.or_false] at hw1 ⊢
    rw [if_pos hx8]
    cases sp
    · refine br_yes rfl ?_
      have hlw : IntKind.wrap .u64 (l : Int) = ((l : Nat) : Int) := by rw [wrap_u64]; omega
      rw [hlw]
      refine (number_ok hw1 l 2 (by omega) (by omega)).mono fun v h4 ⟨hv, S4, hw4, ho4, hf4⟩ => ⟨hv, ?_⟩
      have h14 : Only S h h4 := ho1.trans ho4 (fun _ h => h) (fun _ _ h => h)
      have hx4 : Bs h4 p l xs := hx.only h14 fun a ha _ => hd a ha
      refine (plain_put (c := c) hw4 hx4 (by simp [numB_length]; omega)).mono fun v h6 ⟨hv, S6, hw6, ho6, hf6⟩ => ⟨hv, rfl, S6, ?_, ?_, ?_⟩
      · simpa [putS, List.append_assoc, hxl] using hw6
      · exact h14.step (fun y hy => (hf4 y hy).imp id (fun hh => Nat.le_trans ho1.1 hh)) ho6
      · exact From.trans (fun y hy => (hf4 y hy).imp id (fun hh => Nat.le_trans ho1.1 hh)) hf6 h14.1
    · exact br_no rfl ⟨rfl, S, hw1, ho1, From.refl _ _⟩
  · have hd' : decide ((l : Int) < 0 ∨ 8192 < (l : Int)) = true := by simp; omega
    rw [hd', Bool.or_true] at hw1 ⊢
    rw [if_neg hx8]
    refine br_no rfl ⟨rfl, S, ?_, ho1, From.refl _ _⟩
    cases sp <;> exact hw1

theorem same_ok {h : Heap} {p q : Option Addr} {l m c d : Nat} {xs ys : List UInt8} (hx : Bs h p l xs) (hy : Bs h q m ys) (hl : l ≤ 70368744177664) :
    CallsH Try.prog 34 #[.slice p l c, .slice q m d] h fun v h' => v = .bool (decide (xs = ys)) ∧ h' = h := by
  refine C34 p l c q m d ?_
  unfold F34
  have hxl := hx.1
  have hyl := hy.1
  rw [br_bne]
  refine ⟨fun hne => ⟨by rw [decide_eq_false]; intro e; subst e; omega, by trivial⟩, fun he => ?_⟩
  refine ⟨fun n h' => ∃ i : Nat, n = i ∧ i ≤ l ∧ h' = h ∧ xs.take i = ys.take i, fun n _ => l - n.toNat, ⟨0, rfl, Nat.zero_le _, rfl, by simp⟩, ?_⟩
  rintro n h' ⟨i, rfl, hi, rfl, ht⟩
  rw [br_decide]
  refine ⟨fun hlt => ⟨by omega, hlt, ?_⟩, fun hge => ?_⟩
  · have hi1 : i < xs.length := by omega
    have hi2 : i < ys.length := by omega
    obtain ⟨a, rfl, hc⟩ := hx.cell hi1
    obtain ⟨a', rfl, hc'⟩ := hy.cell hi2
    simp only [deref_some, Nat.mul_one, Int.toNat_natCast]
    refine ⟨_, hc, by omega, by omega, _, hc', ?_⟩
    rw [br_bne]
    refine ⟨fun hne => ⟨?_, by trivial⟩, fun heq => ⟨⟨i + 1, by rw [wrap_i64 (by omega) (by omega)]; omega, by omega, by trivial, ?_⟩, by rw [wrap_i64 (by omega) (by omega)]; omega⟩⟩
    · rw [decide_eq_false]
      intro e
      subst e
      exact hne rfl
    · rw [List.take_succ_eq_append_getElem hi1, List.take_succ_eq_append_getElem hi2, ht]
      congr 2
      exact UInt8.toNat_inj.1 (by omega)
  · refine ⟨?_, rfl⟩
    have : i = l := by omega
    subst this
    rw [List.take_of_length_le (by omega), List.take_of_length_le (by omega)] at ht
    simp [ht]

/-- awake is true. -/
theorem awake_ok (h : Heap) : CallsH Try.prog 29 #[] h fun v h' => v = .bool true ∧ Ext h h' := by
  refine C29 ?_
  unfold F29
  refine newBlk_blk fun h1 b1 e1 s1 => ?_
  have hw : W h1 h.size [] false (· = h.size) := ⟨none, 0, 0, b1, Own.nil _ _, (fun ⟨o, e⟩ => by cases e), fun x => ⟨.inl, fun hx => hx.elim id fun ⟨o, e⟩ => by cases e⟩⟩
  refine (u16_put hw 258 (by simp)).mono fun v h3 ⟨hv, S3, hw3, ho3, hf3⟩ => ⟨hv, ?_⟩
  refine (flag_put hw3 true (by simp [putS, numB])).mono fun v h5 ⟨hv, S5, hw5, ho5, hf5⟩ => ⟨hv, ?_⟩
  refine (out_ok hw5 (by simp [putS, numB])).mono fun v h7 ⟨p8, l9, c10, hv, ho, he, hn⟩ => ⟨he, p8, l9, c10, 0, by simpa [putS] using hv, ?_⟩
  have hx : Ext h h7 := by
    have hA : Only (· = h.size) h1 h5 := ho3.step hf3 ho5
    exact fun b hb => (he b (by have := hA.1; omega)).trans ((hA.2 b (by omega) (by omega)).trans (e1 b hb))
  have hb := ho.bs
  have hl := ho.len
  simp [putS, numB] at hl
  subst hl
  refine br_yes rfl (br_yes rfl ⟨by omega, by omega, ?_⟩)
  obtain ⟨a, rfl, hc⟩ := hb.cell (i := 1) (by simp [putS, numB])
  exact ⟨_, hc, by simp [putS, numB, dg], hx⟩
theorem awake_or {h : Heap} {R : Value → Heap → Prop} (hR : ∀ h', Ext h h' → R (.bool true) h') : CallsH Try.prog 29 #[] h fun v h' => Ext h h' ∧ ∃ t, v = .bool t ∧ R (.bool t) h' :=
  (awake_ok h).mono fun v h' ⟨hv, he⟩ => ⟨he, true, hv, hR h' he⟩

/-! ### The reader: the same cells as a writer's -/
theorem new_ok {h : Heap} {p : Option Addr} {l c : Nat} {xs : List UInt8} (hx : Bs h p l xs) (hl : l ≤ 70368744177664) :
    CallsH Try.prog 32 #[.slice p l c] h fun v h' => ∃ b S, v = ptr b ∧ W h' b xs false S ∧ Ext h h' ∧ ∀ x, S x → h.size ≤ x := by
  refine C32 p l c ?_
  unfold F32
  refine (clone_ok hx hl).mono fun v h1 ⟨p', l', c', hv, ho, he, hn⟩ => ⟨he, p', l', c', hv, newBlk_blk fun h2 b2 e2 s2 => ?_⟩
  refine ⟨h1.size, fun x => x = h1.size ∨ inBlk p' x, rfl, ⟨p', l', c', b2, ho.ext e2, fun hin => ?_, fun x => Iff.rfl⟩, he.trans e2, ?_⟩
  · have := ho.lt hin; omega
  · rintro x (rfl | hx)
    · exact he.size
    · exact hn x hx

theorem takes_ok {h : Heap} {b : Nat} {bs : List UInt8} {f : Bool} {S : Nat → Prop} (hw : W h b bs f S) (n : Nat) :
    CallsH Try.prog 103 #[ptr b, .int .i64 n] h fun v h' => ∃ p' l' c', v = .slice p' l' c' ∧ Own h' 1 p' l' c' ((if f || decide (bs.length < n) then [] else bs.take n).map bv) ∧
      W h' b (if f || decide (bs.length < n) then bs else bs.drop n) (f || decide (bs.length < n)) S ∧ Only (· = b) h h' ∧ (∀ x, inBlk p' x → S x ∧ x ≠ b) := by
  refine C103 (some (Addr.mk b 0 none)) n ?_
  unfold F103
  simp only [Option.isNone_some, br_false, deref_some, add_mk]
  obtain ⟨p, l, c, h1, h2, h3, h4⟩ := id hw
  refine ⟨f, by simp [h1.cell], ?_⟩
  cases f
  · refine br_no rfl (br_no (by simp) ⟨p, l, c, by simp [h1.cell], ?_⟩)
    have hlen := h2.len
    rw [br_decide]
    refine ⟨fun hgt => ?_, fun hle => ?_⟩
    · have hd : decide (bs.length < n) = true := by simp; omega
      refine storeP_blk h1 (by simp) rfl fun h9 b9 o9 s9 => ?_
      refine ⟨none, 0, 0, rfl, by simpa [hd] using Own.nil _ _, ?_, o9, fun x ⟨o, e⟩ => by cases e⟩
      rw [hd]
      exact ⟨p, l, c, by simpa using b9, by simpa using h2.only o9 (fun x hx e => h3 (by have e : x = b := e; subst e; exact hx)), h3, h4⟩
    · have hd : decide (bs.length < n) = false := by simp; omega
      have hc := h2.2.1
      refine ⟨p, l, c, by simp [h1.cell], ?_⟩
      refine sliceP_own h2 (i := 0) (j := n) (m := n) (by omega) (by omega) (by omega) (by omega) fun p1 o1 i1 => ?_
      refine ⟨p, l, c, by simp [h1.cell], ?_⟩
      refine sliceP_own h2 (i := n) (j := l) (m := c) (by omega) (by omega) (by omega) (by omega) fun p2 o2 i2 => ?_
      refine storeP_blk h1 (by simp) rfl fun h9 b9 o9 s9 => ?_
      have hne : ∀ x, inBlk p x → ¬ x = b := fun x hx e => h3 (by subst e; exact hx)
      refine ⟨p1, n - 0, n - 0, rfl, ?_, ?_, o9, fun x hx => ⟨(h4 x).2 (.inr ((i1 x).1 hx)), hne x ((i1 x).1 hx)⟩⟩
      · rw [hd]
        have := o1.only o9 (fun x hx => hne x ((i1 x).1 hx))
        simpa [List.map_take] using this
      · rw [hd]
        refine ⟨p2, l - n, c - n, by simpa using b9, ?_, fun hin => h3 ((i2 b).1 hin), fun x => by rw [h4 x, i2 x]⟩
        have := o2.only o9 (fun x hx => hne x ((i2 x).1 hx))
        rw [List.take_of_length_le (by simp; omega)] at this
        simpa [List.map_drop] using this
  · exact br_yes rfl ⟨none, 0, 0, rfl, by simpa using Own.nil _ _, by simpa using hw, Only.refl _ _, fun x ⟨o, e⟩ => by cases e⟩
theorem rplain_ok {h : Heap} {b : Nat} {bs : List UInt8} {f : Bool} {S : Nat → Prop} (hw : W h b bs f S) (n : Nat) :
    CallsH Try.prog 33 #[ptr b, .int .i64 n] h fun v h' => ∃ p' l' c', v = .slice p' l' c' ∧ Own h' 1 p' l' c' ((if f || decide (bs.length < n) then [] else bs.take n).map bv) ∧
      W h' b (if f || decide (bs.length < n) then bs else bs.drop n) (f || decide (bs.length < n)) S ∧ Only (· = b) h h' ∧ (∀ x, inBlk p' x → S x ∧ x ≠ b) := by
  refine C33 (some (Addr.mk b 0 none)) n ?_
  unfold F33
  exact (takes_ok hw n).mono fun v h' ⟨p', l', c', hv, hh⟩ => ⟨p', l', c', hv, p', l', c', rfl, hh⟩

end Go.Proofs.Ythhjkdebmmfndaa
