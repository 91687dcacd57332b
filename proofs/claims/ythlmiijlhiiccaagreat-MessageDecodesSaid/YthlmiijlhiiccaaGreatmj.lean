/- Layer 18: messages that came in with a call; the empty one. -/
import Derived.Test.YthlmiijlhiiccaaGreatma
set_option linter.unusedVariables false
set_option maxRecDepth 100000
namespace Go.Proofs.YthlmiijlhiiccaaGreat
open Go Go.Vc Go.Proofs Go.Vc.Keys
abbrev h32S : Shape := .arr 32 (.int .u8)
abbrev txS : Shape := .slice (.int .u8)
abbrev pfS : Shape := .cons (.int .i64) (.cons h32S .nil)
abbrev stpS : Shape := .cons pfS (.cons h32S .nil)
abbrev vrS : Shape := .cons (.int .i64) (.cons (.int .i64) (.cons h32S (.cons h32S (.cons txS .nil))))
abbrev rwS : Shape := .cons .bool (.cons h32S (.cons h32S (.cons pfS (.cons h32S (.cons h32S .nil)))))
abbrev nwS : Shape := .cons txS (.cons vrS .nil)
abbrev prS : Shape := .cons (.slice stpS) (.cons (.int .i64) (.cons h32S (.cons h32S (.cons pfS (.cons h32S (.cons h32S .nil))))))
abbrev hdS : Shape := .cons (.int .i64) (.cons (.int .i64) (.cons h32S (.cons h32S .nil)))
abbrev sgS : Shape := .cons hdS (.cons txS .nil)
abbrev trS : Shape := .cons (.slice h32S) (.cons (.slice h32S) .nil)
abbrev msT : Shape := .cons (.int .i64) (.cons (.int .i64) (.cons (.int .i64) (.cons (.int .i64) (.cons txS (.cons txS (.cons sgS (.cons trS (.cons trS (.cons h32S (.cons prS (.cons (.slice vrS) (.cons (.slice rwS) (.cons (.slice nwS) (.cons (.slice h32S) .nil))))))))))))))
abbrev msS : Shape := .cons (.int .i64) (.cons (.int .i64) (.cons (.int .i64) msT))
section
variable {h : Heap} {cs : List Value}
theorem rdb_ones : ∀ {s : Shape} {cs : List Value}, Rdb h s cs → ones cs
  | .int k, cs, ⟨n, e, _⟩ => by rw [e]; intro v hv; simp at hv; rw [hv]; rfl
  | .bool, cs, ⟨n, e⟩ => by rw [e]; intro v hv; simp at hv; rw [hv]; rfl
  | .str, cs, ⟨n, e, _⟩ => by rw [e]; intro v hv; simp at hv; rw [hv]; rfl
  | .slice s, cs, ⟨p, l, c, e, _⟩ => by rw [e]; intro v hv; simp at hv; rw [hv]; rfl
  | .arr n s, cs, ⟨rows, e1, e2, e3⟩ => by
    rw [e2]; intro v hv
    obtain ⟨r, h1, h2⟩ := List.mem_flatten.1 hv
    exact rdb_ones (e3 r h1) v h2
  | .nil, cs, e => by rw [show cs = [] from e]; intro v hv; simp at hv
  | .cons s r, cs, ⟨a, b, e, ha, hb⟩ => by
    rw [e]; intro v hv
    rcases List.mem_append.1 hv with hv | hv
    · exact rdb_ones ha v hv
    · exact rdb_ones hb v hv
theorem dn {a r b t : List Value} {i n : Nat} (d : cs.drop i = a ++ r) (hl : a.length = n) (e : r = b ++ t) : cs.drop (i + n) = b ++ t := by
  rw [← List.drop_drop, d, List.drop_left' hl, e]
theorem tk {a r : List Value} {i n : Nat} (d : cs.drop i = a ++ r) (hl : a.length = n) : (cs.drop i).take n = a := by
  rw [d, List.take_left' hl]
theorem gt {r : List Value} {v : Value} {i : Nat} (d : cs.drop i = [v] ++ r) : cs[i]? = some v := by
  have := congrArg (fun l => l[0]?) d
  simpa [List.getElem?_drop] using this
theorem hash_of (r : Rdb h h32S cs) : ∃ x, HashR h cs x := by
  obtain ⟨x, a, b⟩ := r.byteArr
  exact ⟨x, a, b⟩
theorem txt_of (r : Rdb h txS cs) : ∃ c x, cs = [c] ∧ TxtR h c x := by
  obtain ⟨p, l, c, bs, e, h1, h2, h3⟩ := r.bytes
  exact ⟨_, bs, e, p, l, c, rfl, h1, h3⟩
theorem xs_of {α : Type} {s : Shape} {R : Rel α} (hR : ∀ cs, Rdb h s cs → ∃ x, R h cs x) : ∀ {rows : List (List Value)}, (∀ r ∈ rows, Rdb h s r) → ∃ xs : List α, xs.length = rows.length ∧ ∀ i (h1 : i < rows.length) (h2 : i < xs.length), rows[i].length = s.size ∧ ones rows[i] ∧ R h rows[i] xs[i]
  | [], _ => ⟨[], rfl, fun i h1 => by simp at h1⟩
  | r :: rs, hr => by
    obtain ⟨xs, h1, h2⟩ := xs_of hR fun x hx => hr x (List.mem_cons_of_mem _ hx)
    have h0 := hr r (List.mem_cons_self ..)
    obtain ⟨x, hx⟩ := hR r h0
    refine ⟨x :: xs, by simp [h1], fun i a b => ?_⟩
    cases i with
    | zero => exact ⟨h0.len, rdb_ones h0, hx⟩
    | succ i => exact h2 i (by simpa using a) (by simpa using b)
theorem ls_of {α : Type} {s : Shape} {R : Rel α} (hR : ∀ cs, Rdb h s cs → ∃ x, R h cs x) (r : Rdb h (.slice s) cs) : ∃ c xs, cs = [c] ∧ LsR s.size R h c xs := by
  obtain ⟨p, l, c, e, h1, h2, rows, h3, h4, h5⟩ := r
  obtain ⟨xs, g1, g2⟩ := xs_of hR h5
  exact ⟨_, xs, e, p, l, c, rows, rfl, h1, h3, by omega, h4, g2⟩
theorem pf_of (r : Rdb h pfS cs) : ∃ p, PfOk p ∧ cs = pfC p := by
  obtain ⟨a0, r0, e0, ⟨n, rfl, hn⟩, a1, r1, e1, h1, e2⟩ := r
  obtain ⟨x, hx, rfl⟩ := hash_of h1
  exact ⟨⟨n, x⟩, ⟨hx, wf_i64 hn⟩, by rw [e0, e1, show r1 = [] from e2, List.append_nil]; rfl⟩
theorem stp_of (cs : List Value) (r : Rdb h stpS cs) : ∃ s, StpR h cs s := by
  obtain ⟨a0, r0, e0, h0, a1, r1, e1, h1, e2⟩ := r
  obtain ⟨p, hp, rfl⟩ := pf_of h0
  obtain ⟨x, hx, rfl⟩ := hash_of h1
  exact ⟨⟨p, x⟩, hp, hx, by rw [e0, e1, show r1 = [] from e2, List.append_nil]⟩
theorem vr_of (cs : List Value) (r : Rdb h vrS cs) : ∃ v, VrR h cs v := by
  have hl := r.len
  obtain ⟨a0, r0, e0, ⟨n, rfl, hn⟩, a1, r1, e1, ⟨m, rfl, hm⟩, a2, r2, e2, h2, a3, r3, e3, h3, a4, r4, e4, h4, e5⟩ := r
  have l2 := h2.len
  have l3 := h3.len
  obtain ⟨x, hx, rfl⟩ := hash_of h2
  obtain ⟨y, hy, rfl⟩ := hash_of h3
  obtain ⟨c, z, rfl, hz⟩ := txt_of h4
  have d0 : cs.drop 0 = [.int .i64 n] ++ r0 := e0
  have d1 := dn d0 rfl e1
  have d2 := dn d1 rfl e2
  have d3 := dn d2 l2 e3
  have d4 := dn d3 l3 e4
  exact ⟨⟨n, m, x, y, z⟩, hl, gt d0, gt d1, tk d2 l2, tk d3 l3, ⟨c, gt d4, hz⟩, ⟨hx, hy⟩, wf_i64 hn, wf_i64 hm⟩
theorem rw_of (cs : List Value) (r : Rdb h rwS cs) : ∃ v, RwR h cs v := by
  obtain ⟨a0, r0, e0, ⟨b, rfl⟩, a1, r1, e1, h1, a2, r2, e2, h2, a3, r3, e3, h3, a4, r4, e4, h4, a5, r5, e5, h5, e6⟩ := r
  obtain ⟨k, hk, rfl⟩ := hash_of h1
  obtain ⟨v, hv, rfl⟩ := hash_of h2
  obtain ⟨p, hp, rfl⟩ := pf_of h3
  obtain ⟨x, hx, rfl⟩ := hash_of h4
  obtain ⟨y, hy, rfl⟩ := hash_of h5
  exact ⟨⟨b, k, v, p, x, y⟩, hk, hv, hp, hx, hy, by rw [e0, e1, e2, e3, e4, e5, show r5 = [] from e6, List.append_nil]; rfl⟩
theorem nw_of (cs : List Value) (r : Rdb h nwS cs) : ∃ v, NwR h cs v := by
  obtain ⟨a0, r0, e0, h0, a1, r1, e1, h1, e2⟩ := r
  obtain ⟨c, x, rfl, hx⟩ := txt_of h0
  obtain ⟨v, hv⟩ := vr_of _ h1
  exact ⟨⟨x, v⟩, c, a1, by rw [e0, e1, show r1 = [] from e2, List.append_nil]; rfl, hx, hv⟩
theorem pr_of (r : Rdb h prS cs) : ∃ v, PrR h cs v := by
  have hl := r.len
  obtain ⟨a0, r0, e0, h0, a1, r1, e1, ⟨n, rfl, hn⟩, a2, r2, e2, h2, a3, r3, e3, h3, a4, r4, e4, h4, a5, r5, e5, h5, a6, r6, e6, h6, e7⟩ := r
  have l2 := h2.len
  have l3 := h3.len
  have l4 := h4.len
  have l5 := h5.len
  have l6 := h6.len
  obtain ⟨c, xs, rfl, hxs⟩ := ls_of stp_of h0
  obtain ⟨k, hk, rfl⟩ := hash_of h2
  obtain ⟨v, hv, rfl⟩ := hash_of h3
  obtain ⟨p, hp, rfl⟩ := pf_of h4
  obtain ⟨x, hx, rfl⟩ := hash_of h5
  obtain ⟨y, hy, rfl⟩ := hash_of h6
  have d0 : cs.drop 0 = [c] ++ r0 := e0
  have d1 := dn d0 rfl e1
  have d2 := dn d1 rfl e2
  have d3 := dn d2 l2 e3
  have d4 := dn d3 l3 e4
  have d5 := dn d4 l4 e5
  have d6 := dn d5 l5 e6
  exact ⟨⟨xs, n, k, v, p, x, y⟩, hl, ⟨c, gt d0, hxs⟩, gt d1, tk d2 l2, tk d3 l3, tk d4 l4, tk d5 l5, tk d6 l6, ⟨hk, hv, hp, hx, hy⟩, wf_i64 hn⟩
theorem sg_of (r : Rdb h sgS cs) : ∃ s, SgR h cs s := by
  have hl := r.len
  obtain ⟨b, r', e', ⟨a0, r0, e0, ⟨n, rfl, hn⟩, a1, r1, e1, ⟨m, rfl, hm⟩, a2, r2, e2, h2, a3, r3, e3, h3, e4⟩, a4, r4, e5, h4, e6⟩ := r
  have l2 := h2.len
  have l3 := h3.len
  obtain ⟨x, hx, rfl⟩ := hash_of h2
  obtain ⟨y, hy, rfl⟩ := hash_of h3
  obtain ⟨c, z, rfl, hz⟩ := txt_of h4
  have e3 : r2 = bcs y := by rw [e3, show r3 = [] from e4, List.append_nil]
  have d0 : cs.drop 0 = [.int .i64 n] ++ (r0 ++ r') := by rw [List.drop_zero, e', e0, List.append_assoc]
  have d1 := dn d0 rfl (show r0 ++ r' = [.int .i64 m] ++ (r1 ++ r') by rw [e1, List.append_assoc])
  have d2 := dn d1 rfl (show r1 ++ r' = bcs x ++ (r2 ++ r') by rw [e2, List.append_assoc])
  have d3 := dn d2 l2 (show r2 ++ r' = bcs y ++ r' by rw [e3])
  have d4 := dn d3 l3 e5
  exact ⟨⟨n, m, x, y, z⟩, hl, gt d0, gt d1, tk d2 l2, tk d3 l3, ⟨c, gt d4, hz⟩, ⟨hx, hy⟩, wf_i64 hn, wf_i64 hm⟩
theorem tr_of (r : Rdb h trS cs) : ∃ t, TrR h cs t := by
  obtain ⟨a0, r0, e0, h0, a1, r1, e1, h1, e2⟩ := r
  obtain ⟨c, xs, rfl, hx⟩ := ls_of (fun _ => hash_of) h0
  obtain ⟨d, ys, rfl, hy⟩ := ls_of (fun _ => hash_of) h1
  exact ⟨⟨xs, ys⟩, c, d, by rw [e0, e1, show r1 = [] from e2, List.append_nil]; rfl, hx, hy⟩
theorem ms_of (r : Rdb h msS cs) : ∃ m, MsR h cs m := by
  have hl := r.len
  have ho := rdb_ones r
  obtain ⟨a0, r0, e0, ⟨n0, rfl, hn0⟩, a1, r1, e1, ⟨n1, rfl, hn1⟩, a2, r2, e2, ⟨n2, rfl, hn2⟩, a3, r3, e3, ⟨n3, rfl, hn3⟩, a4, r4, e4, ⟨n4, rfl, hn4⟩, a5, r5, e5, ⟨n5, rfl, hn5⟩, a6, r6, e6, ⟨n6, rfl, hn6⟩,
    a7, r7, e7, h7, a8, r8, e8, h8, a9, r9, e9, h9, a10, r10, e10, h10, a11, r11, e11, h11, a12, r12, e12, h12, a13, r13, e13, h13, a14, r14, e14, h14, a15, r15, e15, h15, a16, r16, e16, h16, a17, r17, e17, h17, e18⟩ := r
  have l9 := h9.len
  have l10 := h10.len
  have l11 := h11.len
  have l12 := h12.len
  have l13 := h13.len
  obtain ⟨c7, x7, rfl, g7⟩ := txt_of h7
  obtain ⟨c8, x8, rfl, g8⟩ := txt_of h8
  obtain ⟨x9, g9⟩ := sg_of h9
  obtain ⟨x10, g10⟩ := tr_of h10
  obtain ⟨x11, g11⟩ := tr_of h11
  obtain ⟨x12, g12, f12⟩ := hash_of h12
  obtain ⟨x13, g13⟩ := pr_of h13
  obtain ⟨c14, x14, rfl, g14⟩ := ls_of vr_of h14
  obtain ⟨c15, x15, rfl, g15⟩ := ls_of rw_of h15
  obtain ⟨c16, x16, rfl, g16⟩ := ls_of nw_of h16
  obtain ⟨c17, x17, rfl, g17⟩ := ls_of (fun _ => hash_of) h17
  have d0 : cs.drop 0 = [.int .i64 n0] ++ r0 := e0
  have d1 := dn d0 rfl e1
  have d2 := dn d1 rfl e2
  have d3 := dn d2 rfl e3
  have d4 := dn d3 rfl e4
  have d5 := dn d4 rfl e5
  have d6 := dn d5 rfl e6
  have d7 := dn d6 rfl e7
  have d8 := dn d7 rfl e8
  have d9 := dn d8 rfl e9
  have d10 := dn d9 l9 e10
  have d11 := dn d10 l10 e11
  have d12 := dn d11 l11 e12
  have d13 := dn d12 l12 e13
  have d14 := dn d13 l13 e14
  have d15 := dn d14 rfl e15
  have d16 := dn d15 rfl e16
  have d17 := dn d16 rfl e17
  refine ⟨⟨n0, n1, n2, n3, n4, n5, n6, x7, x8, x9, x10, x11, x12, x13, x14, x15, x16, x17⟩, hl, gt d0, gt d1, gt d2, gt d3, gt d4, gt d5, gt d6, ⟨c7, gt d7, g7⟩, ⟨c8, gt d8, g8⟩, ?_, ?_, ?_, ?_, g12, ?_, ⟨c14, gt d14, g14⟩, ⟨c15, gt d15, g15⟩, ⟨c16, gt d16, g16⟩, ⟨c17, gt d17, g17⟩,
    ⟨wf_i64 hn0, wf_i64 hn1, wf_i64 hn2, wf_i64 hn3, wf_i64 hn4, wf_i64 hn5, wf_i64 hn6⟩, ho⟩
  · rw [← tk d9 l9] at g9; exact g9
  · rw [← tk d10 l10] at g10; exact g10
  · rw [← tk d11 l11] at g11; exact g11
  · rw [← f12]; exact tk d12 l12
  · rw [← tk d13 l13] at g13; exact g13
theorem ms_arg {v : Value} (a : ArgR h msS v) : ∃ cs m, v = .agg (List.toArray cs) ∧ MsR h cs m := by
  obtain ⟨cs, e, r⟩ := a
  obtain ⟨m, hm⟩ := ms_of r
  exact ⟨cs.toList, m, by rw [Array.toArray_toList]; exact e, hm⟩
/- ### The empty ones -/
def zeroC : Shape → List Value
  | .int k => [.int k 0]
  | .bool => [.bool false]
  | .str => [.string ⟨#[]⟩]
  | .slice _ => [.slice none 0 0]
  | .arr n s => (List.replicate n (zeroC s)).flatten
  | .nil => []
  | .cons s r => zeroC s ++ zeroC r
theorem rdb_zero : ∀ (s : Shape), Rdb h s (zeroC s)
  | .int k => ⟨0, rfl, by cases k <;> rfl⟩
  | .bool => ⟨_, rfl⟩
  | .str => ⟨_, rfl, by show 0 ≤ maxLen; exact Nat.zero_le _⟩
  | .slice s => ⟨none, 0, 0, rfl, Nat.le_refl _, Nat.zero_le _, [], rfl, ⟨by simp, by rw [Nat.zero_mul]; rfl⟩, fun r hr => by simp at hr⟩
  | .arr n s => ⟨List.replicate n (zeroC s), by simp, rfl, fun r hr => by rw [List.eq_of_mem_replicate hr]; exact rdb_zero s⟩
  | .nil => rfl
  | .cons s r => ⟨_, _, rfl, rdb_zero s, rdb_zero r⟩
theorem ms_three (a b c : Int) (ha : (Lit.int .i64 a).wf = true) (hb : (Lit.int .i64 b).wf = true) (hc : (Lit.int .i64 c).wf = true) : ∃ m, MsR h ([.int .i64 a] ++ ([.int .i64 b] ++ ([.int .i64 c] ++ zeroC msT))) m ∧ m.kind = a ∧ m.src = b ∧ m.dst = c := by
  obtain ⟨m, hm⟩ := ms_of (h := h) (cs := [.int .i64 a] ++ ([.int .i64 b] ++ ([.int .i64 c] ++ zeroC msT))) ⟨_, _, rfl, ⟨a, rfl, ha⟩, _, _, rfl, ⟨b, rfl, hb⟩, _, _, rfl, ⟨c, rfl, hc⟩, rdb_zero msT⟩
  refine ⟨m, hm, ?_, ?_, ?_⟩
  · have := hm.kind
    simp at this; exact this.symm
  · have := hm.src
    simp at this; exact this.symm
  · have := hm.dst
    simp at this; exact this.symm
end
end Go.Proofs.YthlmiijlhiiccaaGreat
