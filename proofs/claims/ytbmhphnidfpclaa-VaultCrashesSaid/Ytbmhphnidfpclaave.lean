/- Layer 10: a vault between two openings, and behind a restart (no program in sight). -/
import Derived.Test.Ytbmhphnidfpclaavd
set_option linter.unusedVariables false
set_option maxRecDepth 100000
namespace Go.Proofs.Ytbmhphnidfpclaa
open Go Go.Vc Go.Proofs
/-- What may be crashed: the slot tells s, or the next one, or the other area. -/
def Cr (D : Dev) (n c : Nat) (s : Vs) (L : Lg) (x R : List (List UInt8)) (q gm : Nat) (oth : List (List (List UInt8))) : Prop :=
  ∃ pd Lo lo xo Ro qo, Slt D n c (encV s) pd ∧ 1 ≤ c ∧ 1 ≤ s.least ∧ s.least ≤ s.gen ∧ s.gen ≤ gm ∧ Ar D n L s.least x R q s.sec s.gen ∧ Ar D n Lo lo xo Ro qo (!s.sec) s.gen ∧
    ∀ v, pd = some v → (v = encV s.next ∧ s.gen + 1 ≤ gm) ∨ (v = encV s.swap ∧ lo = s.gen ∧ xo = [] ∧ qo = Ro.length ∧ Ro ∈ oth)
/-- A device at rest: behind a restart. -/
structure Rest (D : Dev) (n c : Nat) (s : Vs) (y : List (List UInt8)) : Prop where
  slt : ∃ v, Slt D n c v none ∧ (0 < c → v = encV s)
  zero : c = 0 → s = ⟨false, 1, 0⟩
  least1 : 1 ≤ s.least
  leastg : 0 < c → s.least ≤ s.gen
  queue : D.queue = []
  up : D.down = false
  tame : ∃ G, G < 256 ∧ G ≤ s.gen ∧ ∀ sec j, j < spN n → Tame G j (D.lasts.getD (fromN n sec + j) [])
  scan : (scanD D (fromN n s.sec) (spN n) s.least).1 = y
/-- A vault that is open: all records that may be there, how many of them must, and those of replaces that may have been done. -/
def VI (V : VT) (n c gm : Nat) (all : List (List UInt8)) (sure : Nat) (oth : List (List (List UInt8))) : Prop :=
  ∃ x R lost q, Cr V.D n c V.s V.L x R q gm oth ∧ V.L.gen ≤ V.s.gen ∧ all = x ++ (R ++ lost) ∧ (V.ov = false → lost = []) ∧ sure ≤ x.length + q ∧ (V.ov = true → V.D.down = true)
section
variable {D : Dev} {n c q gm : Nat} {s : Vs} {L : Lg} {x R y : List (List UInt8)} {oth : List (List (List UInt8))}
theorem Cr.restart (r : Cr D n c s L x R q gm oth) (hs : spN n < 255) (hn : 2 ≤ n) (hc : c + 2 < 18446744073709551616) (list : List Int) :
    ∃ c' s' y, Rest (restartD D list) n c' s' y ∧ c ≤ c' ∧ c' ≤ c + 1 ∧ s.gen ≤ s'.gen ∧ s'.gen ≤ gm ∧ ((∃ m, q ≤ m ∧ m ≤ R.length ∧ y = x ++ R.take m) ∨ y ∈ oth) := by
  obtain ⟨pd, Lo, lo, xo, Ro, qo, sl, hc1, hl1, hlg, hgm, a, b, hpd⟩ := r
  obtain ⟨m, m1, m2, m3, G1, g1, g2, g3⟩ := a.crash hs list
  obtain ⟨m', m1', m2', m3', G2, k1, k2, k3⟩ := b.crash hs list
  have tame : ∃ G, G < 256 ∧ G ≤ s.gen ∧ ∀ sec j, j < spN n → Tame G j ((restartD D list).lasts.getD (fromN n sec + j) []) := by
    refine ⟨max G1 G2, by omega, by omega, fun sec j hj => ?_⟩
    by_cases h : sec = s.sec
    · subst h; exact (g3 j hj).mono (by omega)
    · have : sec = !s.sec := by cases sec <;> cases hh : s.sec <;> simp_all
      subst this; exact (k3 j hj).mono (by omega)
  rcases sl.restart hc list with sl' | ⟨v, hv, sl'⟩
  · exact ⟨c, s, _, ⟨⟨_, sl', fun _ => rfl⟩, fun h => by omega, hl1, fun _ => hlg, rfl, rfl, tame, m3⟩, by omega, by omega, by omega, by omega, .inl ⟨m, m2, m1, rfl⟩⟩
  · obtain ⟨G, t1, t2, t3⟩ := tame
    rcases hpd v hv with ⟨h, hg1⟩ | ⟨h, h1, h2, h3, h4⟩
    · exact ⟨c + 1, s.next, _, ⟨⟨_, sl', fun _ => h⟩, fun h => by omega, hl1, fun _ => by show s.least ≤ s.gen + 1; omega, rfl, rfl, ⟨G, t1, by show G ≤ s.gen + 1; omega, t3⟩, m3⟩, by omega, by omega, by show s.gen ≤ s.gen + 1; omega, hg1, .inl ⟨m, m2, m1, rfl⟩⟩
    · subst h1; subst h2
      have hm : m' = Ro.length := by omega
      rw [hm, List.take_length, List.nil_append] at m3'
      exact ⟨c + 1, s.swap, _, ⟨⟨_, sl', fun _ => h⟩, fun h => by omega, by show 1 ≤ s.gen; omega, fun _ => Nat.le_refl _, rfl, rfl, ⟨G, t1, t2, t3⟩, m3'⟩, by omega, by omega, Nat.le_refl _, hgm, .inr h4⟩
theorem Rest.wf (r : Rest D n c s y) : D.Wf n := by
  obtain ⟨v, sl, _⟩ := r.slt
  exact sl.wf
theorem Rest.fuse (r : Rest D n c s y) {k : Int} (hk : k ≤ 9223372036854775807) : Rest (fuseD D k) n c s y := by
  obtain ⟨v, sl, h⟩ := r.slt
  exact ⟨⟨v, sl.fuse hk, h⟩, r.zero, r.least1, r.leastg, r.queue, r.up, r.tame, r.scan⟩
theorem Rest.load (r : Rest D n c s y) (hc : c + 2 < 18446744073709551616) : ∃ v, loadD D 0 = ((c, v), 0) ∧ (0 < c → v = encV s) := by
  obtain ⟨v, sl, h⟩ := r.slt
  exact ⟨v, sl.load r.up hc, h⟩
/-- A vault is opened, or the power goes. -/
theorem Rest.open (r : Rest D n c s y) (hs : spN n < 255) (hn : 2 ≤ n) (hc : c + 3 < 18446744073709551616) (hg : s.gen + 1 < 4294967296) (d : Nat) :
    ((saveD D 0 (encV s.next)).1.2 = 0 ∧ (saveD D 0 (encV s.next)).2.down = false ∧ (scanD (saveD D 0 (encV s.next)).2 (fromN n s.sec) (spN n) s.least).1 = y ∧
      VI ⟨s.next, false, openL n d s.next (saveD D 0 (encV s.next)).2, (saveD D 0 (encV s.next)).2⟩ n (c + 1) (s.gen + 1) y y.length []) ∨
    ((saveD D 0 (encV s.next)).1.2 = 6 ∧ (1 ≤ c → ∃ L, Cr (saveD D 0 (encV s.next)).2 n c s L y [] 0 (s.gen + 1) [])) := by
  obtain ⟨v, sl, hv⟩ := r.slt
  obtain ⟨G, t1, t2, t3⟩ := r.tame
  have wf := r.wf
  have hl := r.least1
  have hlg : s.least ≤ s.gen + 1 := by
    by_cases h : c = 0
    · rw [r.zero h]; decide
    · have := r.leastg (by omega); omega
  have hy : (encV s.next).length ≤ 110 := by rw [encV_length]; omega
  have a := ar_open (d := d) (sec := s.sec) (gen := s.gen + 1) (least := s.least) wf hn hg r.queue (t3 s.sec) (by omega) t1 t2 hl hlg
  have b := ar_open (d := d) (sec := !s.sec) (gen := s.gen + 1) (least := 1) wf hn hg r.queue (t3 (!s.sec)) (by omega) t1 t2 (Nat.le_refl 1) (by omega)
  have a' := a.save sl r.up (by omega) hy
  have b' := b.save sl r.up (by omega) hy
  have hreg := save_reg sl r.up r.queue (by omega) hy (from_two n s.sec) (from_fit hn s.sec)
  rw [r.scan] at a'
  rcases sl.save r.up (by omega) hy with ⟨h0, h1, h2, sl'⟩ | ⟨h6, h1, pd, hpd, sl'⟩
  · refine .inl ⟨h0, h1, by rw [scanD_reg, hreg, ← scanD_reg, r.scan], y, [], [], 0, ?_, Nat.le_refl _, by simp, fun _ => rfl, by omega, fun h => by cases h⟩
    have e : openL n d s.next (saveD D 0 (encV s.next)).2 = ⟨d, fromN n s.sec, spN n, s.gen + 1, (scanD D (fromN n s.sec) (spN n) s.least).2, false⟩ := by
      show (⟨d, fromN n s.sec, spN n, s.gen + 1, (scanD (saveD D 0 (encV s.next)).2 (fromN n s.sec) (spN n) s.least).2, false⟩ : Lg) = _
      rw [scanD_reg, hreg, ← scanD_reg]
    rw [e]
    exact ⟨none, _, _, _, _, _, sl', by omega, hl, hlg, Nat.le_refl _, a'.mono (Nat.le_succ _), b'.mono (Nat.le_succ _), fun v h => by cases h⟩
  · refine .inr ⟨h6, fun hc1 => ⟨_, pd, _, _, _, _, _, ?_, hc1, hl, r.leastg (by omega), Nat.le_succ _, a', b', fun w hw => ?_⟩⟩
    · rw [← hv (by omega)]; exact sl'
    · rcases hpd with h | h
      · rw [h] at hw; cases hw
      · rw [h] at hw; cases hw; exact .inl ⟨rfl, Nat.le_refl _⟩
end
theorem rest_new {n : Nat} (h2 : 2 ≤ n) (hn : n ≤ 4096) : Rest (newD n) n 0 ⟨false, 1, 0⟩ [] := by
  refine ⟨⟨[], slt_new h2 hn, fun h => by omega⟩, fun _ => rfl, Nat.le_refl _, fun h => by omega, rfl, rfl, ⟨0, by omega, Nat.le_refl _, fun sec j hj => ?_⟩, by rw [scan_new (from_fit h2 _)]⟩
  have hf := from_fit h2 sec
  have : (newD n).lasts.getD (fromN n sec + j) [] = zeroP := by
    show (List.replicate n (List.replicate 128 0)).getD (fromN n sec + j) [] = _
    rw [List.getD_eq_getElem?_getD, List.getElem?_replicate, if_pos (by omega)]; rfl
  rw [this]
  exact tame_zero j
section
variable {V : VT} {n c gm sure : Nat} {all : List (List UInt8)} {oth : List (List (List UInt8))}
theorem VI.wf (i : VI V n c gm all sure oth) : V.D.Wf n := by
  obtain ⟨x, R, lost, q, ⟨pd, Lo, lo, xo, Ro, qo, sl, _⟩, _⟩ := i
  exact sl.wf
theorem VI.lwf (i : VI V n c gm all sure oth) : V.L.Wf n := by
  obtain ⟨x, R, lost, q, ⟨pd, Lo, lo, xo, Ro, qo, sl, hc1, hl1, hlg, hgm, a, b, hpd⟩, _⟩ := i
  exact a.lwf
theorem VI.area (i : VI V n c gm all sure oth) : V.L.start = fromN n V.s.sec ∧ V.L.count = spN n ∧ V.L.gen ≤ V.s.gen ∧ 1 ≤ c ∧ 1 ≤ V.s.least ∧ V.s.least ≤ V.s.gen ∧ V.s.gen ≤ gm := by
  obtain ⟨x, R, lost, q, ⟨pd, Lo, lo, xo, Ro, qo, sl, hc1, hl1, hlg, hgm, a, b, hpd⟩, h, _⟩ := i
  exact ⟨a.start, a.count, h, hc1, hl1, hlg, hgm⟩
theorem VI.fuse (i : VI V n c gm all sure oth) {k : Int} (hk : k ≤ 9223372036854775807) : VI ⟨V.s, V.ov, V.L, fuseD V.D k⟩ n c gm all sure oth := by
  obtain ⟨x, R, lost, q, ⟨pd, Lo, lo, xo, Ro, qo, sl, hc1, hl1, hlg, hgm, a, b, hpd⟩, h⟩ := i
  exact ⟨x, R, lost, q, ⟨pd, Lo, lo, xo, Ro, qo, sl.fuse hk, hc1, hl1, hlg, hgm, a.fuse hk, b.fuse hk, hpd⟩, h⟩
theorem VI.restart (i : VI V n c gm all sure oth) (hs : spN n < 255) (hn : 2 ≤ n) (hc : c + 2 < 18446744073709551616) (list : List Int) :
    ∃ c' s' y, Rest (restartD V.D list) n c' s' y ∧ c ≤ c' ∧ c' ≤ c + 1 ∧ V.s.gen ≤ s'.gen ∧ s'.gen ≤ gm ∧ ((y <+: all ∧ sure ≤ y.length) ∨ y ∈ oth) := by
  obtain ⟨x, R, lost, q, r, h1, h2, h3, h4, h5⟩ := i
  obtain ⟨c', s', y, k1, k2, k3, k4, k5, k6⟩ := r.restart hs hn hc list
  refine ⟨c', s', y, k1, k2, k3, k4, k5, k6.imp (fun ⟨m, m1, m2, m3⟩ => ?_) id⟩
  subst m3; subst h2
  refine ⟨?_, ?_⟩
  · refine List.prefix_append_right_inj x |>.2 ?_
    exact (List.take_prefix m R).trans (List.prefix_append R lost)
  · rw [List.length_append, List.length_take]
    omega
theorem VI.append (i : VI V n c gm all sure oth) (hg : V.s.gen < 256) {b : List UInt8} (hb : b.length ≤ 6000) :
    ((appendT V b).1 = 5 ∧ (appendT V b).2 = V) ∨ ((appendT V b).1 = 0 ∧ V.ov = false ∧ (appendT V b).2.ov = false ∧ VI (appendT V b).2 n c gm (all ++ [b]) sure oth) ∨
    ((appendT V b).1 = 6 ∧ (appendT V b).2.ov = true ∧ VI (appendT V b).2 n c gm (all ++ [b]) sure oth) := by
  obtain ⟨x, R, lost, q, ⟨pd, Lo, lo, xo, Ro, qo, sl, hc1, hl1, hlg, hgm, a, b', hpd⟩, h1, h2, h3, h4, h5⟩ := i
  unfold appendT
  cases hov : V.ov
  rotate_left
  · rw [if_pos rfl]
    exact .inr (.inr ⟨rfl, hov, x, R, lost ++ [b], q, ⟨pd, Lo, lo, xo, Ro, qo, sl, hc1, hl1, hlg, hgm, a, b', hpd⟩, h1, by rw [h2]; simp, (fun h => by rw [hov] at h; cases h), h4, h5⟩)
  rw [if_neg (by simp)]
  have hl0 := h3 hov
  subst hl0
  have sl' : Slt (appendD V.L V.D b).2.2 n c (encV V.s) pd := appendD_keep (fun D => Slt D n c (encV V.s) pd) (fun D i xs hi _ h => h.other (by have := from_two n V.s.sec; rw [a.start] at hi; omega)) sl
  have bb : Ar (appendD V.L V.D b).2.2 n Lo lo xo Ro qo (!V.s.sec) V.s.gen := appendD_keep (fun D => Ar D n Lo lo xo Ro qo (!V.s.sec) V.s.gen) (fun D i xs hi1 hi2 h => h.other (by rw [a.start] at hi1; exact hi1) (by rw [a.start, a.count] at hi2; exact hi2)) b'
  obtain ⟨l1, l2, l3, l4, l5⟩ := appendD_lwf (D := V.D) a.lwf b
  rcases a.append hb (by omega) h1 with ⟨e5, hs, _⟩ | ⟨e0, ho, a'⟩ | ⟨e6, hd, a'⟩
  · refine .inl ⟨e5, ?_⟩
    rw [e5]
    have e1 := congrArg Prod.fst hs
    have e2 := congrArg Prod.snd hs
    dsimp only at e1 e2 ⊢
    rw [e1, e2, ← hov]
    cases V; simp
  · refine .inr (.inl ⟨e0, rfl, by rw [e0]; rfl, x, R ++ [b], [], q, ⟨pd, Lo, lo, xo, Ro, qo, sl', hc1, hl1, hlg, hgm, a', bb, hpd⟩, ?_, by rw [h2]; simp, fun _ => rfl, h4, ?_⟩)
    · dsimp only; omega
    · dsimp only; rw [e0]; intro h; cases h
  · refine .inr (.inr ⟨e6, by rw [e6]; rfl, x, R, [b], q, ⟨pd, Lo, lo, xo, Ro, qo, sl', hc1, hl1, hlg, hgm, a', bb, hpd⟩, ?_, by rw [h2]; simp, ?_, h4, fun _ => hd⟩)
    · dsimp only; omega
    · dsimp only; rw [e6]; intro h; cases h
theorem VI.flush (i : VI V n c gm all sure oth) :
    ((flushT V).1 = 0 ∧ (flushT V).2.ov = false ∧ (flushT V).2.L = V.L ∧ VI (flushT V).2 n c gm all all.length oth) ∨ ((flushT V).1 = 6 ∧ (flushT V).2.ov = true ∧ VI (flushT V).2 n c gm all sure oth) := by
  have i0 := i
  obtain ⟨x, R, lost, q, ⟨pd, Lo, lo, xo, Ro, qo, sl, hc1, hl1, hlg, hgm, a, b', hpd⟩, h1, h2, h3, h4, h5⟩ := i
  unfold flushT
  cases hov : V.ov
  rotate_left
  · rw [if_pos rfl]
    exact .inr ⟨rfl, hov, i0⟩
  rw [if_neg (by simp)]
  have hl0 := h3 hov
  subst hl0
  have sl' : Slt (flushL V.L V.D).2.2 n c (encV V.s) pd := by
    unfold flushL
    split
    · exact sl
    · exact sl.flush'
  have bb : Ar (flushL V.L V.D).2.2 n Lo lo xo Ro qo (!V.s.sec) V.s.gen := by
    unfold flushL
    split
    · exact b'
    · exact b'.flushed
  obtain ⟨l1, l2, l3, l4, l5⟩ := flushL_lwf (D := V.D) a.lwf
  rcases a.flush with ⟨e0, hs, hd, hq, a'⟩ | ⟨e6, hd, a'⟩
  · refine .inl ⟨e0, by rw [e0]; rfl, hs, x, R, [], R.length, ⟨pd, Lo, lo, xo, Ro, qo, sl', hc1, hl1, hlg, hgm, ?_, bb, hpd⟩, ?_, h2, fun _ => rfl, ?_, ?_⟩
    · dsimp only; rw [hs]; exact a'
    · dsimp only; omega
    · rw [h2]; simp
    · dsimp only; rw [e0]; intro h; cases h
  · refine .inr ⟨e6, by rw [e6]; rfl, x, R, [], q, ⟨pd, Lo, lo, xo, Ro, qo, sl', hc1, hl1, hlg, hgm, a', bb, hpd⟩, ?_, h2, fun _ => rfl, h4, fun _ => hd⟩
    dsimp only; omega
end
end Go.Proofs.Ytbmhphnidfpclaa
