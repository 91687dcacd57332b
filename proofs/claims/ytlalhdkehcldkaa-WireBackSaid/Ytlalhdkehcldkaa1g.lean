/- Fields that came in with a call. -/
import Derived.Test.Ytlalhdkehcldkaa1d
set_option linter.unusedVariables false
namespace Go.Proofs.Ytlalhdkehcldkaa
open Go Go.Vc Go.Proofs
abbrev fldShape : Shape := .cons (.int .i64) (.cons (.int .u64) (.cons (.slice (.int .u8)) .nil))
theorem fld_of {h : Heap} {cs : List Value} (r : Rdb h fldShape cs) : ∃ f, FldR h cs f := by
  obtain ⟨a, r1, e1, ⟨k, ha, hk⟩, b, r2, e2, ⟨x, hb, hx⟩, c, r3, e3, hc, hr3⟩ := r
  obtain ⟨p, l, cp, bs, e, h1, h2, h3⟩ := Rdb.bytes hc
  have hr3 : r3 = [] := hr3
  obtain ⟨hx0, hx1⟩ := wf_u rfl hx
  have hb64 : IntKind.u64.bits = 64 := rfl
  rw [hb64] at hx1
  have hk' := wf_i64 hk
  refine ⟨⟨k, x.toNat, bs⟩, p, l, cp, ?_, h1, h2, h3, by simp only; omega, hk'.1, hk'.2⟩
  rw [e1, ha, e2, hb, e3, e, hr3]
  simp only [List.cons_append, List.nil_append, List.append_nil]
  have : ((x.toNat : Nat) : Int) = x := by omega
  rw [this]
theorem flds_of {h : Heap} {p : Option Addr} {l : Nat} : ∀ {rows : List (List Value)}, (∀ r ∈ rows, Rdb h fldShape r) → ∃ fs : List Fld, fs.length = rows.length ∧ ∀ i (h1 : i < rows.length) (h2 : i < fs.length), FldR h rows[i] fs[i]
  | [], _ => ⟨[], rfl, fun i h1 => by simp at h1⟩
  | r :: rs, hr => by
    obtain ⟨fs, h1, h2⟩ := flds_of (p := p) (l := l) fun x hx => hr x (List.mem_cons_of_mem _ hx)
    obtain ⟨f, hf⟩ := fld_of (hr r (List.mem_cons_self ..))
    refine ⟨f :: fs, by simp [h1], fun i a b => ?_⟩
    cases i with
    | zero => exact hf
    | succ i => exact h2 i (by simpa using a) (by simpa using b)
theorem flds_arg {h : Heap} {v : Value} (a : ArgR h (.slice fldShape) v) : ∃ p l c fs, v = .slice p l c ∧ Flds h p l fs := by
  obtain ⟨p, l, c, e, h1, h2, rows, h3, h4, h5⟩ := a
  obtain ⟨fs, g1, g2⟩ := flds_of (p := p) (l := l) h5
  exact ⟨p, l, c, fs, by simpa using e, rows, h3, by omega, h4, g2⟩
theorem fld_arg {h : Heap} {v : Value} (a : ArgR h fldShape v) : ∃ (p : Option Addr) (l c : Nat) (f : Fld), v = .agg #[.int .i64 f.k, .int .u64 (f.x : Int), .slice p l c] ∧ l ≤ c ∧ Bs h p l f.b ∧ f.x < 18446744073709551616 := by
  obtain ⟨cs, e, r⟩ := a
  obtain ⟨f, p, l, c, e2, h1, _, h2, h3, _⟩ := fld_of r
  refine ⟨p, l, c, f, ?_, h1, h2, h3⟩
  rw [e]
  congr 1
  exact Array.toList_inj.1 e2
end Go.Proofs.Ytlalhdkehcldkaa
