/- The calculus of XVcA is sound: append, copy, make, conversions, builtins. -/
import Derived.Test.YtkeggnfffnodmaaVcE
set_option linter.unusedVariables false
namespace Go.Vc

section
variable {P : Program} {w : World}

theorem src_size {h : Heap} {p : Option Addr} {n : Nat} {cs : Array Value} (e : src h p n = some cs) : cs.size = n ∨ (p = none ∧ cs = #[]) := by
  cases p with
  | none => simp only [src, Option.some.injEq] at e; exact .inr ⟨rfl, e.symm⟩
  | some a => exact .inl (row_size e)

theorem append_sound {t u ty e e' : TypeId} {z : Value} {p q : Option Addr} {l c n c' : Nat} {K : Value → Heap → Prop} (ht : P.underlying t = some (.slice e)) (hd : P.underlying u = some (.slice e'))
    (hz : zeroOf P e = some z) (h : appendP e (szOf P e) (bytesOf P e) z.cells p l c q n w.heap fun p l c h => K (.slice p l c) h) :
    ∃ v w', (Builtin.append_ #[t, u] ty #[.slice p l c, .slice q n c']).run P w = .ok v w' ∧ Rest w w' ∧ K v w'.heap := by
  obtain ⟨i, hi, hiz⟩ := info_of_zero hz
  obtain ⟨news, hsrc, hone, hroom, hgrow⟩ := h
  have hby : bytesOf P e = i.bytes := by simp [bytesOf, hi]
  have hf := run_src (P := P) (w := w) (n := n) (c := c') hsrc
  by_cases hc : l + n ≤ c
  · obtain ⟨hw, hk⟩ := hroom hc
    cases p with
    | none =>
      refine ⟨.slice none (l + n) c, w, ?_, Rest.refl w, hk _ rfl⟩
      simp only [Builtin.append_, List.getElem?_toArray, List.getElem?_cons_zero, List.getElem?_cons_succ, Sem.run_bind, run_underlying ht, run_underlying hd, Result.andThen_ok, run_size hi, Sem.run_pure, Bool.false_eq_true, if_false, Builtin.lenOf, hc, if_true, Bool.not_false, hf]
    | some a =>
      refine ⟨.slice (some a) (l + n) c, { w with heap := putRow w.heap (a.add (l * szOf P e)) 0 news.toList }, ?_, ?_, hk _ rfl⟩
      · have hst := run_putRow (P := P) (a.add (l * szOf P e)) news.toList 0 w (fun j hj => by
          rw [Nat.zero_add]
          refine hw a rfl j ?_
          rcases src_size hsrc with hs | ⟨rfl, rfl⟩
          · rw [← hs]; simpa using hj
          · simp at hj) hone
        simp only [Builtin.append_, List.getElem?_toArray, List.getElem?_cons_zero, List.getElem?_cons_succ, Sem.run_bind, run_underlying ht, run_underlying hd, Result.andThen_ok, run_size hi, Sem.run_pure, Bool.false_eq_true, if_false, Builtin.lenOf, hc, if_true, Bool.not_false, hf]
        rw [hst]
        rfl
      · exact ⟨rfl, rfl, rfl⟩
  · obtain ⟨h1, h2, old, hold, hk⟩ := hgrow (by omega)
    rw [hby] at h2
    have hfit := growslice_fits (need := l + n) (old := c) (by omega) h2
    have hfo := run_src (P := P) (w := w.drew) (c := c) (n := l) (show src w.drew.heap p (l * szOf P e) = some old from hold)
    have hfn := run_src (P := P) (w := w.drew) (c := c') (n := n) (show src w.drew.heap q (n * szOf P e) = some news from hsrc)
    have hge := grownCap_ge w (l + n) c e
    have hle := grownCap_le_maxLen w (l + n) c e h1
    refine ⟨.slice (some ⟨w.heap.size, 0, none⟩) (l + n) (grownCap w (l + n) c e), w.drew.alloc (.cells (old ++ news ++ Builtin.zeroCells z.cells (grownCap w (l + n) c e - (l + n))) e), ?_, ⟨rfl, rfl, rfl⟩, hk _ _ _ hge hle rfl rfl⟩
    have h48 : ¬ (Builtin.nextslicecap (l + n) c * i.bytes > 2 ^ 48) := by omega
    have h63 : ¬ (((l + n : Nat) : Int) > IntKind.i64.max ∧ (False ∨ i.bytes = 0)) := by
      intro hx
      have : IntKind.i64.max = 9223372036854775807 := rfl
      rw [this] at hx
      unfold maxLen at h1
      omega
    have hch : (choose (.appendCap (l + n) c e)).run P w = .ok (grownCap w (l + n) c e) w.drew := by
      rw [run_choose]; rfl
    simp only [Builtin.append_, List.getElem?_toArray, List.getElem?_cons_zero, List.getElem?_cons_succ, Sem.run_bind, run_underlying ht, run_underlying hd, Result.andThen_ok, run_size hi, Sem.run_pure, Bool.false_eq_true, if_false, Builtin.lenOf, hc, Bool.not_false, if_true, run_info hi, h63, h48, hch, run_askRoom, hfo, hfn, run_zero hz, run_newRow]
    rfl

theorem copy_sound {t u ty e : TypeId} {i : TypeInfo} {p q : Option Addr} {l c n c' : Nat} {K : Value → Heap → Prop} (ht : P.underlying t = some (.slice e)) (hi : P.info? e = some i)
    (h : copyP (szOf P e) p l q n w.heap fun n h => K (.int .i64 n) h) :
    ∃ v w', (Builtin.copy_ #[t, u] ty #[.slice p l c, .slice q n c']).run P w = .ok v w' ∧ Rest w w' ∧ K v w'.heap := by
  obtain ⟨news, hsrc, hone, hw, hk⟩ := h
  have hf := run_src (P := P) (w := w) (n := n) (c := c') hsrc
  cases p with
  | none =>
    refine ⟨_, w, ?_, Rest.refl w, hk _ rfl⟩
    simp only [Builtin.copy_, List.getElem?_toArray, List.getElem?_cons_zero, List.getElem?_cons_succ, Sem.run_bind, run_underlying ht, Result.andThen_ok, run_size hi, Sem.run_pure, Builtin.lenOf, hf]
    rfl
  | some a =>
    refine ⟨_, { w with heap := putRow w.heap a 0 news.toList }, ?_, ?_, hk _ rfl⟩
    · have hst := run_putRow (P := P) a news.toList 0 w (fun j hj => by
        rw [Nat.zero_add]
        refine hw a rfl j ?_
        rcases src_size hsrc with hs | ⟨rfl, rfl⟩
        · rw [← hs]; simpa using hj
        · simp at hj) hone
      simp only [Builtin.copy_, List.getElem?_toArray, List.getElem?_cons_zero, List.getElem?_cons_succ, Sem.run_bind, run_underlying ht, Result.andThen_ok, run_size hi, Sem.run_pure, Builtin.lenOf, hf]
      rw [hst]
      rfl
    · exact ⟨rfl, rfl, rfl⟩

theorem make_sound {t e : TypeId} {z : Value} {kl kc : IntKind} {l c : Int} {K : Value → Heap → Prop} (ht : P.underlying t = some (.slice e)) (hz : zeroOf P e = some z)
    (h : makeP e (szOf P e) (bytesOf P e) z.cells l c w.heap fun b h => K (.slice (some ⟨b, 0, none⟩) l.toNat c.toNat) h) :
    ∃ v w', (Instr.makeSlice t (.int kl l) (.int kc c)).run P w = .ok v w' ∧ Rest w w' ∧ K v w'.heap := by
  obtain ⟨i, hi, hiz⟩ := info_of_zero hz
  obtain ⟨h0, h1, h2, h3, hk⟩ := h
  have hby : bytesOf P e = i.bytes := by simp [bytesOf, hi]
  rw [hby] at h3
  have hcm : c ≤ 9223372036854775807 := by unfold maxLen at h2; omega
  have hlm : l ≤ 9223372036854775807 := by omega
  have wr : ∀ x : Int, 0 ≤ x → x ≤ 9223372036854775807 → IntKind.i64.wrap x = x := by
    intro x hx hx'
    unfold IntKind.wrap IntKind.bits IntKind.signed
    simp only
    rw [Int.emod_eq_of_lt hx (by omega)]
    simp
    omega
  refine ⟨_, { w with heap := w.heap.push (.cells (if c.toNat * szOf P e = 0 then #[] else zeroRow z.cells (c.toNat * szOf P e)) e) }, ?_, ?_, hk _ _ rfl rfl⟩
  · have hneg : ¬ ((c < 0 || (i.bytes : Int) * c > 2 ^ 48) || l < 0 || l > c) = true := by
      simp; omega
    simp only [Instr.makeSlice, Sem.run_bind, run_underlying ht, Result.andThen_ok, asInt, asIntOf, Sem.run_pure, run_info hi, wr l h0 hlm, wr c (by omega) hcm]
    rw [Sem.run_ite]
    rw [if_neg (by simpa using hneg)]
    simp only [Sem.run_bind, run_askRoom, Result.andThen_ok, run_size hi]
    by_cases hn : c.toNat * szOf P e = 0
    · have e0 : ∀ f : Nat → Value, (Array.range 0).map f = #[] := fun f => by apply Array.toList_inj.1; simp
      simp only [hn, if_true, Sem.run_bind, Sem.run_pure, Result.andThen_ok, run_newRow, e0]
    · simp only [hn, if_false, Sem.run_bind, Sem.run_pure, Result.andThen_ok, run_newRow, run_zero hz]
      rfl
  · exact ⟨rfl, rfl, rfl⟩

theorem fold_min (k : IntKind) : ∀ (r : List Value) (a n : Int), foldI minI a r = some n → (r.foldlM Builtin.min2 (.int k a) : Sem Value).run P w = .ok (.int k n) w
  | [], a, n, h => by simp only [foldI, Option.some.injEq] at h; subst h; rfl
  | .int k' b :: r, a, n, h => by
    simp only [foldI] at h
    simp only [List.foldlM_cons, Sem.run_bind, Builtin.min2, Sem.run_pure, Result.andThen_ok]
    have := fold_min k r (minI a b) n h
    unfold minI at this
    exact this
theorem fold_max (k : IntKind) : ∀ (r : List Value) (a n : Int), foldI maxI a r = some n → (r.foldlM Builtin.max2 (.int k a) : Sem Value).run P w = .ok (.int k n) w
  | [], a, n, h => by simp only [foldI, Option.some.injEq] at h; subst h; rfl
  | .int k' b :: r, a, n, h => by
    simp only [foldI] at h
    simp only [List.foldlM_cons, Sem.run_bind, Builtin.max2, Sem.run_pure, Result.andThen_ok]
    have := fold_max k r (maxI a b) n h
    unfold maxI at this
    exact this

theorem builtin_sound {b : Builtin} {ts : List TypeId} {ty : TypeId} {consts : Array Bool} {args : List Value} {K : Value → Heap → Prop} (h : builtinVc P b ts args w.heap K) :
    ∃ v w', (builtin b ts.toArray ty consts args.toArray).run P w = .ok (.value v) w' ∧ Rest w w' ∧ K v w'.heap := by
  unfold builtinVc at h
  split at h
  · rename_i t x
    split at h
    · rename_i ht; exact ⟨_, w, by simp [builtin, Builtin.len_, run_underlying ht, goInt], Rest.refl w, h⟩
    · rename_i ht; exact ⟨_, w, by simp [builtin, Builtin.len_, run_underlying ht, goInt], Rest.refl w, h⟩
    · rename_i ht; exact ⟨_, w, by simp [builtin, Builtin.len_, run_underlying ht, goInt], Rest.refl w, h⟩
    · rename_i ht
      split at h
      · rename_i he; exact ⟨_, w, by simp [builtin, Builtin.len_, run_underlying ht, run_underlying he, goInt], Rest.refl w, h⟩
      · exact h.elim
    · exact h.elim
  · rename_i t x
    split at h
    · rename_i ht; exact ⟨_, w, by simp [builtin, Builtin.cap_, run_underlying ht, goInt], Rest.refl w, h⟩
    · exact h.elim
  · rename_i k a r
    split at h
    · rename_i n hn
      refine ⟨_, w, ?_, Rest.refl w, h⟩
      simp [builtin, Builtin.min_, fold_min k r a n hn]
    · exact h.elim
  · rename_i k a r
    split at h
    · rename_i n hn
      refine ⟨_, w, ?_, Rest.refl w, h⟩
      simp [builtin, Builtin.max_, fold_max k r a n hn]
    · exact h.elim
  · rename_i t u p l c q n c'
    split at h
    · rename_i e e' ht hu
      split at h
      · rename_i z hz
        obtain ⟨v, w', hr, hrest, hk⟩ := append_sound (ty := ty) (c' := c') ht hu hz h
        exact ⟨v, w', by simp [builtin, hr], hrest, hk⟩
      · exact h.elim
    · exact h.elim
  · rename_i t u p l c q n c'
    split at h
    · rename_i e ht
      split at h
      · rename_i i hi
        obtain ⟨v, w', hr, hrest, hk⟩ := copy_sound (u := u) (ty := ty) (c := c) (c' := c') ht hi h
        exact ⟨v, w', by simp [builtin, hr], hrest, hk⟩
      · exact h.elim
    · exact h.elim
  · exact h.elim

theorem freeze_mark {a : Addr} {c : Array Value} {t : TypeId} {f : Nat × Nat} (hb : w.heap[a.block]? = some (.cells c t f)) :
    (markStringish a).run P w = .ok () { w with heap := markH w.heap a } := by
  have hsh : w.shape? a.block = some (t, c.size) := by simp [World.shape?, hb]
  simp only [markStringish, Sem.run_bind, run_shape, Result.andThen_ok, hsh, run_freeze]
  unfold World.freeze markH
  simp only [hb]
  rw [if_neg (by decide)]
  rfl

theorem conv_sound {s d : TypeId} {x : Value} {K : Value → Heap → Prop} (h : convVc P s d x w.heap K) :
    ∃ v w', (convert s d x).run P w = .ok v w' ∧ Rest w w' ∧ K v w'.heap := by
  unfold convVc at h
  split at h
  · rename_i hs hd
    exact ⟨_, w, by simp [convert, run_underlying hs, run_underlying hd, Conv.intToInt], Rest.refl w, h⟩
  · rename_i e a l c hs hd
    split at h
    · rename_i hsd he
      obtain ⟨⟨t, n, hex⟩, hk⟩ := h
      have := Nat.eq_of_beq_eq_true hsd
      subst this
      rw [hs] at hd
      split at hex
      · rename_i c' t' f hb
        refine ⟨_, { w with heap := markH w.heap a }, ?_, ⟨rfl, rfl, rfl⟩, hk _ rfl⟩
        simp only [convert, Sem.run_bind, run_underlying hs, Result.andThen_ok]
        simp only [Option.some.injEq, TypeDesc.slice.injEq] at hd
        subst hd
        simp [run_underlying he, freeze_mark hb]
      · cases hex
    · exact h.elim
  · rename_i u e s hs hd
    split at h
    · rename_i he
      obtain ⟨hm, hk⟩ := h
      refine ⟨_, _, Lib.run_convert_string_bytes w _ _ e _ hs hd he, ⟨rfl, rfl, rfl⟩, hk _ _ _ (grownCap_ge w _ _ e) (grownCap_le_maxLen w _ _ e hm) rfl ?_⟩
      have hsz : (Lib.bytesCells w e s).size = grownCap w s.size 0 e := by
        have := grownCap_ge w s.size 0 e
        have hds : s.data.size = s.size := rfl
        simp [Lib.bytesCells, hds]; omega
      apply Array.ext_getElem?
      intro j
      by_cases hj : j < w.heap.size
      · rw [Lib.bytesWorld_at_old w e s j hj, Array.getElem?_push_lt hj, Array.getElem?_eq_getElem hj]
      · by_cases hj' : j = w.heap.size
        · subst hj'
          rw [Lib.bytesWorld_at_new, hsz, Array.getElem?_push_size]
          congr 2
          simp [Lib.bytesCells, bcs]
          apply Array.toList_inj.1; simp
        · rw [Array.getElem?_eq_none (by rw [Lib.bytesWorld_size]; omega), Array.getElem?_eq_none (by simp; omega)]
    · exact h.elim
  · rename_i e p l c hs hd
    split at h
    · rename_i he
      obtain ⟨xs, hx, hk⟩ := h
      refine ⟨_, w, ?_, Rest.refl w, hk⟩
      have hb : (Conv.bytesToString (.slice p l c)).run P w = .ok (.string ⟨xs.toArray⟩) w := by
        cases p with
        | none =>
          simp only [src, Option.some.injEq] at hx
          have : xs = [] := by
            have := congrArg Array.size hx
            simp [bcs] at this
            exact List.eq_nil_of_length_eq_zero (by simpa using this.symm)
          subst this
          rfl
        | some a =>
          have := run_bytesToString w a l c (xs.map fun b => (b.toNat : Int)) (by
            have hr := run_row (P := P) hx
            rw [hr]; congr 1; simp [bcs, Function.comp_def])
          rw [this]
          congr 2
          have key : ∀ (l : List UInt8) (r : ByteArray), (l.map fun b => (b.toNat : Int)).foldl (fun r n => r.push (UInt8.ofNat n.toNat)) r = ⟨r.data ++ l.toArray⟩ := by
            intro l
            induction l with
            | nil => intro r; apply ByteArray.ext; simp
            | cons x l ih =>
              intro r
              rw [List.map_cons, List.foldl_cons, ih]
              apply ByteArray.ext
              simp [ByteArray.push]
          rw [key]
          apply ByteArray.ext
          simp
      simp only [convert, Sem.run_bind, run_underlying hs, run_underlying hd, Result.andThen_ok]
      simp only [run_underlying he, Result.andThen_ok, hb]
    · exact h.elim
  · exact h.elim
end
end Go.Vc
