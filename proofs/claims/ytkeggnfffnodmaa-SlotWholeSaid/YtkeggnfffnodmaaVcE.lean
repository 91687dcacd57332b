/- The calculus of XVcA is sound: slices, indexes, builtins; every operation but a comparison of arrays or structs. -/
import Derived.Test.YtkeggnfffnodmaaVcD
set_option linter.unusedVariables false
namespace Go.Vc

section
variable {P : Program} {w : World}

theorem bounds_sound {isS : Bool} {sz len cap : Nat} {p : Option Addr} {lo hi mx : Option Value} {K : Value → Prop} (h : cutVc sz p len cap lo hi mx K) :
    ∃ l h' m : Nat, (Instr.sliceBounds isS len cap lo hi mx).run P w = .ok (l, h', m) w ∧ K (.slice (if m = l then p else p.map (·.add (l * sz))) (h' - l) (m - l)) := by
  have fin : ∀ (l h m : Int), sliceP sz p l h m cap (fun p l c => K (.slice p l c)) → 0 ≤ l ∧ l ≤ h ∧ h ≤ m ∧ m ≤ cap ∧ K (.slice (if m.toNat = l.toNat then p else p.map (·.add (l.toNat * sz))) (h.toNat - l.toNat) (m.toNat - l.toNat)) := fun _ _ _ h => h
  unfold cutVc at h
  simp only at h
  split at h
  · rename_i km m
    cases hi with
    | none => exact h.elim
    | some hv =>
      simp only at h
      split at h
      · rename_i kl l
        split at h
        · rename_i kk hh hx
          simp only [Option.some.injEq] at hx
          subst hx
          obtain ⟨h0, h1, h2, h3, hk⟩ := fin _ _ _ h
          refine ⟨l.toNat, hh.toNat, m.toNat, ?_, hk⟩
          simp [Instr.sliceBounds, run_sliceBound, show (0:Int) ≤ m by omega, h3, show (0:Int) ≤ hh by omega, h0, Int.toNat_of_nonneg (show (0:Int) ≤ m by omega), Int.toNat_of_nonneg (show (0:Int) ≤ hh by omega), h1, h2]
        · rename_i hx; exact absurd hx (by simp)
        · exact h.elim
      · split at h
        · rename_i kk hh hx
          simp only [Option.some.injEq] at hx
          subst hx
          obtain ⟨h0, h1, h2, h3, hk⟩ := fin _ _ _ h
          refine ⟨0, hh.toNat, m.toNat, ?_, by simpa using hk⟩
          simp [Instr.sliceBounds, run_sliceBound, show (0:Int) ≤ m by omega, h3, show (0:Int) ≤ hh by omega, Int.toNat_of_nonneg (show (0:Int) ≤ m by omega), h2]
        · rename_i hx; exact absurd hx (by simp)
        · exact h.elim
      · exact h.elim
  · split at h
    · rename_i kl l
      split at h
      · rename_i kh hh
        obtain ⟨h0, h1, h2, h3, hk⟩ := fin _ _ _ h
        refine ⟨l.toNat, hh.toNat, cap, ?_, by simpa using hk⟩
        simp [Instr.sliceBounds, run_sliceBound, h2, show (0:Int) ≤ hh by omega, h0, Int.toNat_of_nonneg (show (0:Int) ≤ hh by omega), h1]
      · obtain ⟨h0, h1, h2, h3, hk⟩ := fin _ _ _ h
        refine ⟨l.toNat, len, cap, ?_, by simpa using hk⟩
        simp [Instr.sliceBounds, run_sliceBound, h0, h1]
      · exact h.elim
    · split at h
      · rename_i kh hh
        obtain ⟨h0, h1, h2, h3, hk⟩ := fin _ _ _ h
        refine ⟨0, hh.toNat, cap, ?_, by simpa using hk⟩
        simp [Instr.sliceBounds, run_sliceBound, h2, show (0:Int) ≤ hh by omega]
      · obtain ⟨h0, h1, h2, h3, hk⟩ := fin _ _ _ h
        refine ⟨0, len, cap, ?_, by simpa using hk⟩
        simp [Instr.sliceBounds]
      · exact h.elim
    · exact h.elim
  · exact h.elim

theorem slice_sound {t : TypeId} {x : Value} {lo hi mx : Option Value} {K : Value → Prop} (h : sliceVc P t x lo hi mx K) :
    ∃ v, (Instr.sliceAt t x lo hi mx).run P w = .ok v w ∧ K v := by
  unfold sliceVc at h
  split at h
  · rename_i n e a ht
    split at h
    · rename_i i hi'
      obtain ⟨l, h', m, hr, hk⟩ := bounds_sound (P := P) (w := w) (isS := false) h
      refine ⟨_, ?_, hk⟩
      simp only [Instr.sliceAt, Sem.run_bind, run_underlying ht, Result.andThen_ok, Instr.sureAddr, Sem.run_pure, hr, run_size hi', szOf_of hi']
      split <;> rfl
    · exact h.elim
  · rename_i e p l c ht
    split at h
    · rename_i i hi'
      obtain ⟨l, h', m, hr, hk⟩ := bounds_sound (P := P) (w := w) (isS := true) h
      refine ⟨_, ?_, hk⟩
      simp only [Instr.sliceAt, Instr.slice, Sem.run_bind, run_underlying ht, Result.andThen_ok, Sem.run_pure, hr, run_size hi', szOf_of hi']
    · exact h.elim
  · exact h.elim

theorem deref_elim {p : Option Addr} {K : Addr → Prop} (h : deref p K) : ∃ a, p = some a ∧ K a := by
  cases p with
  | none => exact h.elim
  | some a => exact ⟨a, rfl, h⟩

theorem indexAddr_sound {t : TypeId} {x : Value} {k : IntKind} {i : Int} {K : Value → Prop} (h : indexAddrVc P t x i K) :
    ∃ v, (Instr.indexAt t x (.int k i)).run P w = .ok v w ∧ K v := by
  unfold indexAddrVc at h
  split at h
  · rename_i n e a ht
    split at h
    · rename_i j hj
      obtain ⟨h0, h1, hk⟩ := h
      refine ⟨_, ?_, hk⟩
      simp [Instr.indexAt, asIntOf, run_underlying ht, Instr.sureAddr, h0, h1, run_size hj, szOf_of hj]
    · exact h.elim
  · rename_i e p n c ht
    split at h
    · rename_i j hj
      obtain ⟨h0, h1, h⟩ := h
      obtain ⟨a, rfl, hk⟩ := deref_elim h
      refine ⟨_, ?_, hk⟩
      simp [Instr.indexAt, asIntOf, run_underlying ht, h0, h1, run_size hj, szOf_of hj]
    · exact h.elim
  · exact h.elim

theorem index_sound {t : TypeId} {x : Value} {k : IntKind} {i : Int} {K : Value → Prop} (h : indexVc P t x i K) :
    ∃ v, (Instr.index t x (.int k i)).run P w = .ok v w ∧ K v := by
  unfold indexVc at h
  split at h
  · rename_i n e cs ht
    obtain ⟨h0, h1, h⟩ := h
    obtain ⟨v, hv, hk⟩ := part_sound (w := w) h
    refine ⟨v, ?_, hk⟩
    have hi : ∃ j, P.info? e = some j := by
      unfold partVc at h
      split at h
      · rename_i hb; exact (run_agg hb w).2
      · rename_i hb; exact (run_agg hb w).2
      · exact h.elim
    obtain ⟨j, hj⟩ := hi
    simp [Instr.index, asIntOf, run_underlying ht, h0, h1, run_size hj, hv]
  · rename_i s ht
    obtain ⟨h0, b, h1, h⟩ := h
    refine ⟨_, ?_, h⟩
    simp [Instr.index, asIntOf, run_underlying ht, h0, h1]
  · exact h.elim

theorem mapM_list {α β : Type} {F : α → Sem β} {g : α → β} (w : World) : ∀ (l : List α), (∀ x ∈ l, (F x).run P w = .ok (g x) w) → (l.mapM F).run P w = .ok (l.map g) w
  | [], _ => by simp
  | x :: l, h => by
    rw [List.mapM_cons]
    simp only [Sem.run_bind, h x (by simp), Result.andThen_ok, mapM_list w l (fun y hy => h y (by simp [hy])), Sem.run_pure, List.map_cons]
theorem mapM_array {α β : Type} {F : α → Sem β} {g : α → β} (w : World) (l : Array α) (h : ∀ x ∈ l, (F x).run P w = .ok (g x) w) : (l.mapM F).run P w = .ok (l.map g) w := by
  rw [Array.mapM_eq_mapM_toList]
  simp only [Sem.run_map, mapM_list w l.toList (fun x hx => h x (Array.mem_toList_iff.1 hx)), Result.andThen_ok]
  congr 1
  apply Array.toList_inj.1
  simp

theorem build_sound {t : TypeId} {ps : List (Nat × Value)} {K : Array Value → Prop} (h : buildVc P t ps K) :
    ∃ cs, (Instr.build t ps.toArray).run P w = .ok (.agg cs) w ∧ K cs := by
  unfold buildVc at h
  split at h
  · rename_i fs z ht hz
    split at h
    · rename_i l hall hl
      simp only [List.all_eq_true] at hall
      have hinfo : ∀ f ∈ fs, ∃ i, P.info? f.type = some i := fun f hf => Option.isSome_iff_exists.1 (hall f (Array.mem_toList_iff.2 hf))
      unfold places at hl
      rw [ht] at hl
      simp only [Option.some.injEq] at hl
      subst hl
      have hm : (fs.mapM fun f => do pure (f.offset, ← sizeOf f.type) : Sem (Array (Nat × Nat))).run P w = .ok (fs.map fun f => (f.offset, szOf P f.type)) w :=
        mapM_array w fs fun f hf => by obtain ⟨i, hi⟩ := hinfo f hf; simp only [Sem.run_bind, run_size hi, Result.andThen_ok, Sem.run_pure]
      obtain ⟨l, hf, hk⟩ := parts_sound h (place := fun i => (fs.map fun f => (f.offset, szOf P f.type))[i]?) (fun i x hx => by rw [getAt_eq] at hx; simpa using hx)
      refine ⟨l.toArray, ?_, hk⟩
      simp only [Instr.build, Sem.run_bind, run_zero hz, run_underlying ht, Result.andThen_ok, hm, Array.toArray_toList] at hf ⊢
      rw [hf]
      rfl
    · exact h.elim
  · rename_i n e z ht hz
    split at h
    · rename_i i hi
      obtain ⟨l, hf, hk⟩ := parts_sound h (place := fun j => some (j * i.size, i.size)) (fun j x hx => by have := evens_getAt _ _ _ _ _ hx; simp [this])
      refine ⟨l.toArray, ?_, hk⟩
      simp only [Instr.build, Sem.run_bind, run_zero hz, run_underlying ht, Result.andThen_ok, run_size hi, szOf_of hi, Array.toArray_toList] at hf ⊢
      rw [hf]
      rfl
    · exact h.elim
  · exact h.elim

theorem zeros_eq (zero : Array Value) : ∀ (n : Nat), 0 < zero.size → (zerosL zero.toList n).toArray = (Array.range (n * zero.size)).map (zero[· % zero.size]!) := by
  intro n hz
  have key : ∀ n, zerosL zero.toList n = (List.range (n * zero.size)).map (zero[· % zero.size]!) := by
    intro n
    induction n with
    | zero => simp [zerosL]
    | succ n ih =>
      simp only [zerosL]
      rw [ih, show (n + 1) * zero.size = zero.size + n * zero.size from by rw [Nat.succ_mul]; omega, List.range_add, List.map_append, List.map_map]
      congr 1
      · apply List.ext_getElem?
        intro i
        by_cases hi : i < zero.size
        · simp [hi, Nat.mod_eq_of_lt hi]
        · simp [hi]
      · apply List.map_congr_left
        intro x _
        simp
  apply Array.toList_inj.1
  rw [key]
  simp

theorem buildSlice_sound {t : TypeId} {n : Nat} {ps : List (Nat × Value)} {K : Value → Heap → Prop} (h : buildSliceVc P t n ps w.heap K) :
    ∃ v w', (Instr.buildSlice t n ps.toArray).run P w = .ok v w' ∧ Rest w w' ∧ K v w'.heap := by
  unfold buildSliceVc at h
  split at h
  · rename_i e ht
    split at h
    · rename_i i z hi hz
      split at h
      · rename_i hb
        simp only [Bool.and_eq_true, Nat.blt_eq] at hb
        obtain ⟨⟨hle, hzs⟩, hpos⟩ := hb
        have hle := Nat.le_of_ble_eq_true hle
        have hzs := Nat.eq_of_beq_eq_true hzs
        have hip : 0 < i.size := Nat.pos_of_mul_pos_left hpos
        obtain ⟨l, hf, hk⟩ := parts_sound h (place := fun j => some (j * i.size, i.size)) (fun j x hx => by have := evens_getAt _ _ _ _ _ hx; simp [this])
        refine ⟨_, { w with heap := w.heap.push (.cells l.toArray e) }, ?_, ?_, hk _ _ rfl rfl⟩
        · rw [zeros_eq z.cells n (by omega), hzs] at hf
          have h24 : ¬ (n * i.size > 2 ^ 24) := by omega
          have h0 : ¬ (n * i.size = 0) := by omega
          simp only [Instr.buildSlice, Sem.run_bind, run_zero hz, run_underlying ht, Result.andThen_ok, run_size hi, szOf_of hi, h24, h0, if_false, Sem.run_pure, hzs]
          rw [hf]
          simp only [Sem.run_bind, run_newRow, Result.andThen_ok, Sem.run_pure]
        · exact ⟨rfl, rfl, rfl⟩
      · rename_i hb
        split at h
        · refine ⟨_, { w with heap := w.heap.push (.cells #[] e) }, ?_, ?_, h _ _ rfl rfl⟩
          · simp only [Instr.buildSlice, Sem.run_bind, run_underlying ht, Result.andThen_ok, run_size hi, Nat.zero_mul]
            have h0 : (Array.range 0).map (fun _ => (default : Value)) = #[] := by apply Array.toList_inj.1; simp
            simp [Instr.fill, run_newRow, h0]
          · exact ⟨rfl, rfl, rfl⟩
        · exact h.elim
    · exact h.elim
  · exact h.elim
end
end Go.Vc
