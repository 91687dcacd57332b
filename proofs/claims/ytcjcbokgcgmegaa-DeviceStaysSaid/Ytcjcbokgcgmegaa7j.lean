/- Calls that came in with a call. -/
import Derived.Test.Ytcjcbokgcgmegaa7i
set_option linter.unusedVariables false
namespace Go.Proofs.Ytcjcbokgcgmegaa
open Go Go.Vc Go.Proofs
abbrev opShape : Shape := .cons (.int .i64) (.cons (.int .i64) (.cons (.slice (.int .u8)) (.cons (.slice (.int .i64)) .nil)))
theorem ints_rows {h : Heap} : ∀ {rows : List (List Value)}, (∀ r ∈ rows, Rdb h (.int .i64) r) → ∃ xs : List Int, xs.length = rows.length ∧ rows.flatten = xs.map (Value.int .i64)
  | [], _ => ⟨[], rfl, rfl⟩
  | r :: rs, hr => by
    obtain ⟨xs, h1, h2⟩ := ints_rows fun x hx => hr x (List.mem_cons_of_mem _ hx)
    obtain ⟨n, e, _⟩ := hr r (List.mem_cons_self ..)
    exact ⟨n :: xs, by simp [h1], by rw [List.flatten_cons, h2, e]; rfl⟩
theorem ints_rdb {h : Heap} {cs : List Value} (r : Rdb h (.slice (.int .i64)) cs) : ∃ p l c, ∃ xs : List Int, cs = [.slice p l c] ∧ xs.length = l ∧ Rd h 1 p l (xs.map (Value.int .i64)) := by
  obtain ⟨p, l, c, e, _, _, rows, h1, h2, h3⟩ := r
  obtain ⟨xs, g1, g2⟩ := ints_rows h3
  exact ⟨p, l, c, xs, e, by omega, by rw [← g2]; exact h2⟩
theorem ints_arg {h : Heap} {v : Value} (a : ArgR h (.slice (.int .i64)) v) : ∃ p l c, ∃ xs : List Int, v = .slice p l c ∧ Rd h 1 p l (xs.map (Value.int .i64)) := by
  obtain ⟨p, l, c, e, _, _, rows, h1, h2, h3⟩ := a
  obtain ⟨xs, g1, g2⟩ := ints_rows h3
  exact ⟨p, l, c, xs, by simpa using e, by rw [← g2]; exact h2⟩
theorem op_of {h : Heap} {cs : List Value} (r : Rdb h opShape cs) : ∃ o, OpR h cs o := by
  obtain ⟨a, r1, e1, ⟨k, ha, hk⟩, b, r2, e2, ⟨x, hb, hx⟩, c, r3, e3, hc, d, r4, e4, hd, hr4⟩ := r
  obtain ⟨p, l, cp, bs, e, h1, h2, h3⟩ := Rdb.bytes hc
  obtain ⟨lp, ll, lc, xs, e', g1, g2⟩ := ints_rdb hd
  have hr4 : r4 = [] := hr4
  refine ⟨⟨k, x, bs, xs⟩, p, l, cp, lp, ll, lc, ?_, h3, g2, (wf_i64 hx).2, g1.symm⟩
  rw [e1, ha, e2, hb, e3, e, e4, e', hr4]
  rfl
theorem ops_of {h : Heap} : ∀ {rows : List (List Value)}, (∀ r ∈ rows, Rdb h opShape r) → ∃ fs : List OpS, fs.length = rows.length ∧ ∀ i (h1 : i < rows.length) (h2 : i < fs.length), OpR h rows[i] fs[i]
  | [], _ => ⟨[], rfl, fun i h1 => by simp at h1⟩
  | r :: rs, hr => by
    obtain ⟨fs, h1, h2⟩ := ops_of fun x hx => hr x (List.mem_cons_of_mem _ hx)
    obtain ⟨f, hf⟩ := op_of (hr r (List.mem_cons_self ..))
    refine ⟨f :: fs, by simp [h1], fun i a b => ?_⟩
    cases i with
    | zero => exact hf
    | succ i => exact h2 i (by simpa using a) (by simpa using b)
theorem ops_arg {h : Heap} {v : Value} (a : ArgR h (.slice opShape) v) : ∃ p l c fs, v = .slice p l c ∧ Ops h p l fs := by
  obtain ⟨p, l, c, e, h1, h2, rows, h3, h4, h5⟩ := a
  obtain ⟨fs, g1, g2⟩ := ops_of h5
  exact ⟨p, l, c, fs, by simpa using e, rows, h3, by omega, h4, g2⟩
end Go.Proofs.Ytcjcbokgcgmegaa
