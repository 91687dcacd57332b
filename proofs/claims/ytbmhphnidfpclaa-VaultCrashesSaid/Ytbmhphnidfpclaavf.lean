/- Layer 10: a vault's records are replaced (no program in sight). -/
import Derived.Test.Ytbmhphnidfpclaave
set_option linter.unusedVariables false
set_option maxRecDepth 100000
namespace Go.Proofs.Ytbmhphnidfpclaa
open Go Go.Vc Go.Proofs
theorem appendD_next {L : Lg} {D : Dev} {b : List UInt8} (h : (appendD L D b).1 = 0) : (appendD L D b).2.1.next = L.next + partsN b.length := by
  unfold appendD at h ⊢
  split
  · rename_i ho; rw [if_pos ho] at h; cases h
  · rename_i ho
    rw [if_neg ho] at h
    split
    · rename_i h1; rw [if_pos h1] at h; cases h
    · rename_i h1
      rw [if_neg h1] at h
      split
      · rename_i h2; rw [if_pos h2] at h; cases h
      · rename_i h2
        rw [if_neg h2] at h
        split
        · rename_i h3; rw [if_pos h3] at h; exact absurd h h3
        · rfl
section
variable {n least g q c : Nat} {x : List (List UInt8)} {sec : Bool}
theorem fillD_keep {P : Dev → Prop} {a m : Nat} (hp : ∀ (D : Dev) (i : Int) xs, (a : Int) ≤ i → i < ((a + m : Nat) : Int) → P D → P (writeD D i xs).2) (hf : ∀ D, P D → P (flushD D).2) :
    ∀ (rs : List (List UInt8)) (L : Lg) (D : Dev), L.Wf n → L.start = a → L.count = m → P D → P (fillD L D rs).2.2
  | [], L, D, w, h1, h2, h => by
    unfold fillD flushL
    split
    · exact h
    · exact hf D h
  | b :: rs, L, D, w, h1, h2, h => by
    have hk : P (appendD L D b).2.2 := appendD_keep P (by rw [h1, h2]; exact hp) h
    obtain ⟨l1, l2, l3, l4, l5⟩ := appendD_lwf (D := D) w b
    rw [fillD]
    split
    · exact hk
    · exact fillD_keep hp hf rs _ _ l1 (by rw [l3, h1]) (by rw [l4, h2]) hk
theorem fillD_ar : ∀ (rs : List (List UInt8)) (L : Lg) (D : Dev) (R : List (List UInt8)), Ar D n L least x R 0 sec g → L.gen < 256 → L.gen ≤ g → (∀ b ∈ rs, b.length ≤ 6000) → L.next + partsS rs ≤ L.count →
    ((fillD L D rs).1 = 0 ∧ (fillD L D rs).2.2.down = false ∧ (fillD L D rs).2.2.queue = [] ∧ (fillD L D rs).2.1.gen = L.gen ∧ Ar (fillD L D rs).2.2 n (fillD L D rs).2.1 least x (R ++ rs) (R ++ rs).length sec g) ∨
    ((fillD L D rs).1 = 6 ∧ (fillD L D rs).2.2.down = true ∧ ∃ R', Ar (fillD L D rs).2.2 n (fillD L D rs).2.1 least x R' 0 sec g)
  | [], L, D, R, a, hg, hgg, hb, hn => by
    unfold fillD
    rcases a.flush with ⟨h0, h1, h2, h3, h4⟩ | ⟨h6, h1, h2⟩
    · refine .inl ⟨h0, h2, h3, by rw [h1], ?_⟩
      rw [h1, List.append_nil]
      exact h4
    · exact .inr ⟨h6, h1, R, h2⟩
  | b :: rs, L, D, R, a, hg, hgg, hb, hn => by
    rw [partsS] at hn
    obtain ⟨l1, l2, l3, l4, l5⟩ := appendD_lwf (D := D) a.lwf b
    rw [fillD]
    rcases a.append (hb b (List.mem_cons_self ..)) hg hgg with ⟨h5, _, h⟩ | ⟨h0, ho, a'⟩ | ⟨h6, hd, a'⟩
    · omega
    · rw [if_neg (by omega)]
      have hx := appendD_next h0
      have := fillD_ar rs _ _ (R ++ [b]) a' (by omega) (by omega) (fun y hy => hb y (List.mem_cons_of_mem _ hy)) (by omega)
      rw [l5] at this
      simpa using this
    · rw [if_pos (by omega)]
      exact .inr ⟨h6, hd, R, a'⟩
end
theorem fits_zero {rs : List (List UInt8)} {sp gen : Nat} (h : fitsV rs sp gen = 0) : (∀ b ∈ rs, b.length ≤ 6000) ∧ partsS rs ≤ sp ∧ gen < 4294967294 := by
  unfold fitsV at h
  split at h
  · cases h
  · rename_i h1
    split at h
    · cases h
    · split at h
      · cases h
      · refine ⟨fun b hb => ?_, by omega, by omega⟩
        apply Classical.byContradiction
        intro hh
        apply h1
        rw [List.any_eq_true]
        exact ⟨b, hb, by simpa using hh⟩
theorem fits_cases (rs : List (List UInt8)) (sp gen : Nat) : fitsV rs sp gen = 3 ∨ fitsV rs sp gen = 5 ∨ fitsV rs sp gen = 0 := by
  unfold fitsV
  split
  · exact .inl rfl
  · split
    · exact .inr (.inl rfl)
    · split
      · exact .inr (.inl rfl)
      · exact .inr (.inr rfl)
section
variable {V : VT} {n c gm sure : Nat} {all : List (List UInt8)} {oth : List (List (List UInt8))}
theorem VI.more (i : VI V n c gm all sure oth) (rs : List (List UInt8)) : VI V n c (gm + 1) all sure (oth ++ [rs]) := by
  obtain ⟨x, R, lost, q, ⟨pd, Lo, lo, xo, Ro, qo, sl, hc1, hl1, hlg, hgm, a, b', hpd⟩, h⟩ := i
  exact ⟨x, R, lost, q, ⟨pd, Lo, lo, xo, Ro, qo, sl, hc1, hl1, hlg, Nat.le_succ_of_le hgm, a, b', fun v hv => (hpd v hv).imp (fun hh => ⟨hh.1, Nat.le_succ_of_le hh.2⟩) fun ⟨h1, h2, h3, h4, h5⟩ => ⟨h1, h2, h3, h4, List.mem_append_left _ h5⟩⟩, h⟩
theorem saveT_down {s' : Vs} (hd : V.D.down = true) : saveT V s' = (6, ⟨V.s, true, V.L, V.D⟩) := by
  unfold saveT
  rw [save_down hd (by rw [encV_length]; omega)]
  simp
theorem saveT_six {s' : Vs} (h : (saveD V.D 0 (encV s')).1.2 = 6) : saveT V s' = (6, ⟨V.s, true, V.L, (saveD V.D 0 (encV s')).2⟩) := by
  unfold saveT
  rw [h]
  simp
theorem saveT_zero {s' : Vs} (h : (saveD V.D 0 (encV s')).1.2 = 0) (ho : V.ov = false) : saveT V s' = (0, ⟨s', false, V.L, (saveD V.D 0 (encV s')).2⟩) := by
  unfold saveT
  rw [h, ho]
  simp
theorem VI.replace (i : VI V n c gm all sure oth) (hs : spN n < 255) (hn : 2 ≤ n) (hc : c + 4 < 18446744073709551616) (hg : V.s.gen + 1 < 256) (rs : List (List UInt8)) :
    ((replaceT n V rs).1 = fitsV rs (spN n) V.s.gen ∧ fitsV rs (spN n) V.s.gen ≠ 0 ∧ V.ov = false ∧ (replaceT n V rs).2 = V) ∨
    ((replaceT n V rs).1 = 0 ∧ fitsV rs (spN n) V.s.gen = 0 ∧ V.ov = false ∧ (replaceT n V rs).2.ov = false ∧ (replaceT n V rs).2.s.gen = V.s.gen + 1 ∧ VI (replaceT n V rs).2 n (c + 2) (gm + 1) rs rs.length []) ∨
    ((replaceT n V rs).1 = 6 ∧ (replaceT n V rs).2.ov = true ∧ V.s.gen ≤ (replaceT n V rs).2.s.gen ∧ (replaceT n V rs).2.s.gen ≤ V.s.gen + 1 ∧ ∃ c', c ≤ c' ∧ c' ≤ c + 2 ∧ VI (replaceT n V rs).2 n c' (gm + 1) all sure (oth ++ [rs])) := by
  have i0 := i.more rs
  obtain ⟨x, R, lost, q, ⟨pd, Lo, lo, xo, Ro, qo, sl, hc1, hl1, hlg, hgm, a, b, hpd⟩, h1, h2, h3, h4, h5⟩ := i
  have hy : ∀ s : Vs, (encV s).length ≤ 110 := fun s => by rw [encV_length]; omega
  unfold replaceT
  cases hov : V.ov
  rotate_left
  · rw [if_pos rfl]
    exact .inr (.inr ⟨rfl, hov, Nat.le_refl _, Nat.le_succ _, c, Nat.le_refl _, by omega, i0⟩)
  rw [if_neg (by simp)]
  by_cases hf : fitsV rs (spN n) V.s.gen = 0
  rotate_left
  · rw [if_pos hf]
    exact .inl ⟨rfl, hf, rfl, rfl⟩
  rw [if_neg (by simpa using hf)]
  obtain ⟨f1, f2, f3⟩ := fits_zero hf
  have hl0 := h3 hov
  subst hl0
  cases hd : V.D.down
  rotate_left
  · rw [saveT_down hd, if_pos (by simp)]
    refine .inr (.inr ⟨rfl, rfl, Nat.le_refl _, by dsimp only; omega, c, Nat.le_refl _, by omega, ?_⟩)
    obtain ⟨x', R', lost', q', cr, k1, k2, k3, k4, k5⟩ := i0
    exact ⟨x', R', lost', q', cr, k1, k2, (fun h => by cases h), k4, fun _ => hd⟩
  have hpn : pd = none := by
    cases h : pd with
    | none => rfl
    | some y => have := sl.pdd (by rw [h]; rfl); rw [hd] at this; cases this
  subst hpn
  have a1 := a.save sl hd (by omega) (hy V.s.next)
  have b1 := b.save sl hd (by omega) (hy V.s.next)
  rcases sl.save hd (by omega) (hy V.s.next) with ⟨s0, s1, s2, sl1⟩ | ⟨s6, s1, pd1, hpd1, sl1⟩
  rotate_left
  · rw [saveT_six s6, if_pos (by simp)]
    refine .inr (.inr ⟨rfl, rfl, Nat.le_refl _, by dsimp only; omega, c, Nat.le_refl _, by omega, x, R, [], q, ⟨pd1, Lo, lo, xo, Ro, qo, sl1, hc1, hl1, hlg, Nat.le_succ_of_le hgm, a1, b1, fun v hv => ?_⟩, h1, h2, fun _ => rfl, h4, fun _ => s1⟩)
    rcases hpd1 with h | h
    · rw [h] at hv; cases hv
    · rw [h] at hv; cases hv; exact .inl ⟨rfl, Nat.succ_le_succ hgm⟩
  rw [saveT_zero s0 hov, if_neg (by simp)]
  generalize (saveD V.D 0 (encV V.s.next)).2 = D1 at *
  unfold replace1
  dsimp only
  obtain ⟨G, t1, t2, t3⟩ := b1.tameNow s2 hs
  have hsc := scan_tame (least := V.s.gen + 1) sl1.wf (from_fit hn _) s2 hs t1 t3 (by omega)
  have A : Ar D1 n (openL n V.L.d V.s.next.swap D1) (V.s.gen + 1) (scanD D1 (fromN n (!V.s.sec)) (spN n) (V.s.gen + 1)).1 [] 0 (!V.s.sec) (V.s.gen + 1) :=
    ar_open sl1.wf hn (show V.s.gen + 1 < _ by omega) s2 t3 (show G < V.s.gen + 1 by omega) t1 (show G ≤ V.s.gen + 1 by omega) (show 1 ≤ V.s.gen + 1 by omega) (Nat.le_refl _)
  have hnx : (openL n V.L.d V.s.next.swap D1).next = 0 := by
    show (scanD D1 (fromN n (!V.s.sec)) (spN n) (V.s.gen + 1)).2 = 0
    rw [hsc]
  have hgen : (openL n V.L.d V.s.next.swap D1).gen = V.s.gen + 1 := rfl
  rw [hsc] at A
  generalize openL n V.L.d V.s.next.swap D1 = L1 at *
  have keepS : Slt (fillD L1 D1 rs).2.2 n (c + 1) (encV V.s.next) none :=
    fillD_keep (P := fun D => Slt D n (c + 1) (encV V.s.next) none) (a := fromN n (!V.s.sec)) (m := spN n) (fun D i xs hi _ h => h.other (by have := from_two n (!V.s.sec); omega)) (fun D h => h.flush') rs L1 D1 A.lwf A.start A.count sl1
  have keepA : Ar (fillD L1 D1 rs).2.2 n V.L V.s.least x R q V.s.sec V.s.gen :=
    fillD_keep (P := fun D => Ar D n V.L V.s.least x R q V.s.sec V.s.gen) (a := fromN n (!V.s.sec)) (m := spN n) (fun D i xs hi1 hi2 h => by rw [← Bool.not_not V.s.sec] at h ⊢; exact h.other hi1 hi2) (fun D h => h.flushed) rs L1 D1 A.lwf A.start A.count a1
  rcases fillD_ar rs L1 D1 [] A (by omega) (by omega) f1 (by rw [A.count]; omega) with ⟨k0, k1, k2, k3, k4⟩ | ⟨k6, k1, R', k2⟩
  rotate_left
  · rw [if_pos (by omega)]
    refine .inr (.inr ⟨k6, by rw [k6]; rfl, by dsimp only [Vs.next]; omega, by dsimp only [Vs.next]; omega, c + 1, by omega, by omega, x, R, [], q, ⟨none, _, _, _, _, _, keepS, by omega, hl1, by dsimp only [Vs.next]; omega, Nat.succ_le_succ hgm, keepA.mono (Nat.le_succ _), k2, fun v hv => by cases hv⟩, by dsimp only [Vs.next]; omega, h2, fun _ => rfl, h4, fun _ => k1⟩)
  rw [if_neg (by omega)]
  rw [List.nil_append] at k4
  generalize fillD L1 D1 rs = FD at *
  unfold replace2
  have a3 := keepA.save keepS k1 (by omega) (hy V.s.next.swap)
  have b3 := k4.save keepS k1 (by omega) (hy V.s.next.swap)
  rcases keepS.save k1 (by omega) (hy V.s.next.swap) with ⟨r0, r1, r2, sl3⟩ | ⟨r6, r1, pd3, hpd3, sl3⟩
  rotate_left
  · rw [saveT_six r6, if_pos (by simp)]
    refine .inr (.inr ⟨rfl, rfl, by dsimp only [Vs.next]; omega, by dsimp only [Vs.next]; omega, c + 1, by omega, by omega, x, R, [], q, ⟨pd3, _, _, _, _, _, sl3, by omega, hl1, by dsimp only [Vs.next]; omega, Nat.succ_le_succ hgm, a3.mono (Nat.le_succ _), b3, fun v hv => ?_⟩, by dsimp only [Vs.next]; omega, h2, fun _ => rfl, h4, fun _ => r1⟩)
    rcases hpd3 with h | h
    · rw [h] at hv; cases hv
    · rw [h] at hv; cases hv; exact .inr ⟨rfl, rfl, rfl, rfl, List.mem_append_right _ (List.mem_singleton.2 rfl)⟩
  rw [saveT_zero r0 (by rfl), if_neg (by simp)]
  generalize (saveD FD.2.2 0 (encV V.s.next.swap)).2 = D3 at *
  obtain ⟨G3, u1, u2, u3⟩ := a3.tameNow r2 hs
  have O := ar_open (d := 0) (sec := V.s.sec) (gen := V.s.gen + 1) (least := 1) (g := V.s.gen + 1) sl3.wf hn (by omega) r2 u3 (by omega) u1 (by omega) (Nat.le_refl 1) (by omega)
  rw [← Bool.not_not V.s.sec] at O
  refine .inr (.inl ⟨rfl, hf, rfl, rfl, rfl, [], rs, [], rs.length, ⟨none, _, _, _, _, _, sl3, by omega, ?_, Nat.le_refl _, Nat.succ_le_succ hgm, b3, O, fun v hv => by cases hv⟩, ?_, by simp, fun _ => rfl, by simp, fun h => by cases h⟩)
  · show 1 ≤ V.s.gen + 1; omega
  · show FD.2.1.gen ≤ V.s.gen + 1; omega
end
end Go.Proofs.Ytbmhphnidfpclaa
