/- WireOwn: what the code computes. -/
import Derived.Test.YthhjkdebmmfndaaWb
set_option linter.unusedVariables false
namespace Go.Proofs.Ythhjkdebmmfndaa
open Go Go.Vc Go.Proofs

/-- From old blocks on, only new blocks have changed. -/
theorem ext_of {h0 h h' : Heap} {S : Nat → Prop} (e : Ext h0 h) (o : Only S h h') (hs : ∀ x, S x → h0.size ≤ x) : Ext h0 h' := fun b hb =>
  (o.2 b (Nat.lt_of_lt_of_le hb e.size) (fun hx => by have := hs b hx; omega)).trans (e b hb)

theorem wireOwn_ok {h : Heap} {p : Option Addr} {l c : Nat} {xs : List UInt8} (hx : Bs h p l xs) :
    CallsH Try.prog 3 #[.slice p l c] h fun v h' => v = .bool true ∧ Ext h h' := by
  refine C3 p l c ?_
  unfold F3
  refine (awake_ok h).mono fun v h1 ⟨hv, e1⟩ => ⟨e1, true, hv, br_no rfl ?_⟩
  rw [br_decide]
  refine ⟨fun _ => (awake_ok h1).mono fun v h' ⟨hv, e'⟩ => ⟨e', true, hv, rfl, e1.trans e'⟩, fun hle => ?_⟩
  have hl : l ≤ 300 := by omega
  have hxl := hx.1
  refine append_own (Own.nil h1 1) (hx.2.ext e1) (bvs_one xs) rfl Nat.one_pos (by omega) (by unfold maxLen; omega) fun p9 c11 h12 o9 on9 f9 _ => ?_
  have e12 : Ext h h12 := e1.trans (on9.ext fun x _ ⟨o, e⟩ => by cases e)
  refine newBlk_blk fun h14 b14 e14 s14 => ?_
  have w14 : W h14 h12.size [] false (· = h12.size) := ⟨none, 0, 0, b14, Own.nil _ _, (fun ⟨o, e⟩ => by cases e), fun x => ⟨.inl, fun hx => hx.elim id fun ⟨o, e⟩ => by cases e⟩⟩
  refine (plain_put w14 (hx.ext (e12.trans e14)) (by simp; omega)).mono fun v h16 ⟨hv, S16, w16, on16, f16⟩ => ⟨hv, ?_⟩
  have e16 : Ext h12 h16 := ext_of e14 on16 fun x hx => by have e : x = h12.size := hx; omega
  simp only [putS, List.nil_append] at w16
  refine (out_ok w16 (by omega)).mono fun v h18 ⟨p19, l20, c21, hv, o19, e18, n19⟩ => ⟨e18, p19, l20, c21, 0, hv, ?_⟩
  refine bump o19 fun h26 ys o26 on26 s26 => ?_
  have e26 : Ext h16 h26 := ext_of e18 on26 n19
  have w26 := (w16.ext e26)
  refine (out_ok w26 (by omega)).mono fun v h32 ⟨p33, l34, c35, hv, o33, e32, n33⟩ => ⟨e32, p33, l34, c35, 0, hv, ?_⟩
  have e032 : Ext h h32 := e12.trans (e16.trans (e26.trans e32))
  refine (new_ok (hx.ext e032) (by omega)).mono fun v h38 ⟨b39, S39, hv, w39, e38, n39⟩ => ⟨e38, _, hv, ?_⟩
  refine (rplain_ok w39 l).mono fun v h41 ⟨p42, l43, c44, hv, o42, w42, on41, f42⟩ => ⟨p42, l43, c44, hv, ?_⟩
  have hb39 : h32.size ≤ b39 := by
    obtain ⟨p, l, c, h1, h2, h3, h4⟩ := w39
    exact n39 _ ((h4 b39).2 (.inl rfl))
  have e41 : Ext h32 h41 := ext_of e38 on41 fun x hx => by have e : x = b39 := hx; omega
  refine bump o42 fun h48 zs o48 on48 s48 => ?_
  have e48 : Ext h32 h48 := ext_of e41 on48 fun x hx => n39 x (f42 x hx).1
  have e948 : Ext h12 h48 := e16.trans (e26.trans (e32.trans e48))
  have bs9 : Bs h48 p9 (0 + l) xs := by simpa using ((Own.bs (bs := xs) (by simpa using o9)).ext e948)
  have bs33 : Bs h48 p33 l34 xs := by simpa using (o33.bs.ext e48)
  refine (same_ok bs33 bs9 (by have := bs33.1; omega)).mono fun v h54 ⟨hv, hh⟩ => ?_
  subst hh
  refine ⟨Ext.refl _, true, by simpa using hv, br_yes rfl ?_⟩
  refine (same_ok (hx.ext (e12.trans e948)) bs9 (by omega)).mono fun v h57 ⟨hv, hh⟩ => ?_
  subst hh
  exact ⟨Ext.refl _, true, by simpa using hv, rfl, e12.trans e948⟩

end Go.Proofs.Ythhjkdebmmfndaa
