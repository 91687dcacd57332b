/- The calculus of XVcA is sound: one operation. -/
import Derived.Test.YtkeggnfffnodmaaVcA
set_option linter.unusedVariables false
namespace Go.Vc

theorem cell_eq (w : World) (a : Addr) : w.cell? a = cell w.heap a := rfl
theorem frz_eq (w : World) (a : Addr) : w.frozen? a = frz w.heap a := rfl
theorem setCell_eq (w : World) (a : Addr) (v : Value) : w.setCell a v = { w with heap := put w.heap a v } := rfl

theorem frz_put (h : Heap) (a b : Addr) (v : Value) : frz (put h a v) b = frz h b := by
  have := World.frozen?_setCell ({ (default : World) with heap := h }) a b v
  simpa [setCell_eq, frz_eq] using this

theorem cell_put_isSome (h : Heap) (a b : Addr) (v : Value) : (cell (put h a v) b).isSome = (cell h b).isSome := by
  unfold cell put
  rw [Array.getElem?_modify]
  by_cases hb : a.block = b.block
  · simp only [hb, if_true]
    cases hh : h[b.block]? with
    | none => simp
    | some x =>
      cases x <;> simp
      split
      · rfl
      · split
        · rfl
        · rw [Array.getElem?_setIfInBounds]
          split
          · rename_i ho
            rw [ho]
            by_cases hlt : b.off < (by assumption : Array Value).size <;> simp [hlt]
          · rfl
  · simp [hb]

theorem wrt_put {h : Heap} {a b : Addr} {v : Value} (hw : wrt h b) : wrt (put h a v) b :=
  ⟨by rw [cell_put_isSome]; exact hw.1, by rw [frz_put]; exact hw.2⟩

section
variable {P : Program}

theorem run_store_h {w : World} {a : Addr} {v : Value} (hv : v.oneCell' = true) (hw : wrt w.heap a) :
    (store a v).run P w = .ok () { w with heap := put w.heap a v } := by
  rw [run_store P w a v .plain hv]
  obtain ⟨h1, h2⟩ := hw
  obtain ⟨u, hu⟩ := Option.isSome_iff_exists.1 h1
  rw [cell_eq, hu]
  simp only [frz_eq, h2]
  rfl

theorem run_load_h {w : World} {a : Addr} {v : Value} (hc : cell w.heap a = some v) : (load a).run P w = .ok v w := by
  rw [run_load]
  rw [cell_eq, hc]

theorem run_rowFrom (w : World) (a : Addr) : ∀ (n i : Nat) (l : List Value) (acc : Array Value), rowFrom w.heap a i n = some l →
    (loadCellsFrom a i n acc).run P w = .ok (acc ++ l.toArray) w
  | 0, i, l, acc, h => by
    simp only [rowFrom, Option.some.injEq] at h
    subst h
    simp [loadCellsFrom]
  | n + 1, i, l, acc, h => by
    simp only [rowFrom] at h
    split at h
    · rename_i v hv
      obtain ⟨l', hl', rfl⟩ := Option.map_eq_some_iff.1 h
      simp only [loadCellsFrom, Sem.run_bind]
      rw [run_load_h hv]
      simp only [Result.andThen_ok]
      rw [run_rowFrom w a n (i + 1) l' _ hl']
      simp
    · cases h

theorem run_row {w : World} {a : Addr} {n : Nat} {cs : Array Value} (h : row w.heap a n = some cs) : (loadCells a n).run P w = .ok cs w := by
  obtain ⟨l, hl, rfl⟩ := Option.map_eq_some_iff.1 h
  unfold loadCells
  rw [run_rowFrom w a n 0 l _ hl]
  simp

theorem rowFrom_length (h : Heap) (a : Addr) : ∀ (n i : Nat) (l : List Value), rowFrom h a i n = some l → l.length = n
  | 0, i, l, e => by simp only [rowFrom, Option.some.injEq] at e; subst e; rfl
  | n + 1, i, l, e => by
    simp only [rowFrom] at e
    split at e
    · obtain ⟨l', hl', rfl⟩ := Option.map_eq_some_iff.1 e
      simp [rowFrom_length h a n (i + 1) l' hl']
    · cases e

theorem row_size {h : Heap} {a : Addr} {n : Nat} {cs : Array Value} (e : row h a n = some cs) : cs.size = n := by
  obtain ⟨l, hl, rfl⟩ := Option.map_eq_some_iff.1 e
  simp [rowFrom_length h a n 0 l hl]

theorem run_putRow (a : Addr) : ∀ (l : List Value) (i : Nat) (w : World), (∀ j, j < l.length → wrt w.heap (a.add (i + j))) → (∀ v ∈ l, v.oneCell' = true) →
    (storeCells a l i).run P w = .ok () { w with heap := putRow w.heap a i l }
  | [], i, w, _, _ => rfl
  | v :: r, i, w, hw, h1 => by
    simp only [storeCells, Sem.run_bind]
    rw [run_store_h (h1 v (by simp)) (by have := hw 0 (by simp); simpa using this)]
    simp only [Result.andThen_ok]
    rw [run_putRow a r (i + 1) _ (fun j hj => wrt_put (by have := hw (j + 1) (by simp; omega); rw [show i + 1 + j = i + (j + 1) from by omega]; exact this)) (fun v hv => h1 v (by simp [hv]))]
    rfl

theorem run_src {w : World} {q : Option Addr} {n c sz m : Nat} {cs : Array Value} (h : src w.heap q (m * sz) = some cs) :
    (Builtin.firstCells sz m (.slice q n c)).run P w = .ok cs w := by
  cases q with
  | none => simp only [src, Option.some.injEq] at h; subst h; rfl
  | some a => simp only [src] at h; simp only [Builtin.firstCells]; exact run_row h

theorem run_und {t : TypeId} {d : TypeDesc} (h : P.underlying t = some d) (w : World) : (underlying t).run P w = .ok d w := run_underlying h w
theorem run_info {t : TypeId} {i : TypeInfo} (h : P.info? t = some i) (w : World) : (typeInfo t).run P w = .ok i w := by simp [typeInfo, h]
theorem run_size {t : TypeId} {i : TypeInfo} (h : P.info? t = some i) (w : World) : (sizeOf t).run P w = .ok (szOf P t) w := by simp [sizeOf, run_info h, szOf, h]
theorem szOf_of {t : TypeId} {i : TypeInfo} (h : P.info? t = some i) : szOf P t = i.size := by simp [szOf, h]
theorem run_zero {t : TypeId} {z : Value} (h : zeroOf P t = some z) (w : World) : (zeroValue t).run P w = .ok z w := by
  unfold zeroOf at h
  obtain ⟨i, hi, hz⟩ := Option.bind_eq_some_iff.1 h
  simp [zeroValue, run_info hi, hz]
theorem info_of_zero {t : TypeId} {z : Value} (h : zeroOf P t = some z) : ∃ i, P.info? t = some i ∧ i.zero = some z := by
  unfold zeroOf at h
  obtain ⟨i, hi, hz⟩ := Option.bind_eq_some_iff.1 h
  exact ⟨i, hi, hz⟩
theorem run_agg {t : TypeId} {b : Bool} (h : aggB P t = some b) (w : World) : (isAgg t).run P w = .ok b w ∧ ∃ i, P.info? t = some i := by
  unfold aggB at h
  split at h <;> simp_all [isAgg, run_underlying]

theorem run_newRow (w : World) (e : TypeId) (c : Array Value) : (newRow e c).run P w = .ok ⟨w.heap.size, 0, none⟩ { w with heap := w.heap.push (.cells c e) } := by
  simp [newRow]
theorem run_newVar (w : World) (e : TypeId) (v : Value) : (newVar e v).run P w = .ok ⟨w.heap.size, 0, none⟩ { w with heap := w.heap.push (.cells v.cells e) } := by
  simp [newVar, run_newRow]

theorem run_loadVar_agg {t : TypeId} {w : World} {a : Addr} {cs : Array Value} (hb : aggB P t = some true) (h : row w.heap a (szOf P t) = some cs) :
    (loadVar t a).run P w = .ok (.agg cs) w := by
  obtain ⟨h1, i, hi⟩ := run_agg hb w
  simp [loadVar, h1, run_size hi, run_row h]
theorem run_loadVar_one {t : TypeId} {w : World} {a : Addr} {v : Value} (hb : aggB P t = some false) (h : cell w.heap a = some v) :
    (loadVar t a).run P w = .ok v w := by
  obtain ⟨h1, i, hi⟩ := run_agg hb w
  simp only [loadVar, Sem.run_bind, h1, Result.andThen_ok, Bool.false_eq_true, if_false]
  exact run_load_h h

theorem exTy_elim {T : Ty} {K : Value → Prop} (h : exTy T K) : ∃ v, K v := by
  cases T <;> simp only [exTy] at h
  case int => exact h.imp' _ fun _ h => h
  case bool => exact h.imp' _ fun _ h => h
  case str => exact h.imp' _ fun _ h => h
  case ptr => exact h.imp' _ fun _ h => h
  case slice => obtain ⟨p, l, c, h⟩ := h; exact ⟨_, h⟩
  case map => exact h.imp' _ fun _ h => h
  case agg => obtain ⟨cs, _, h⟩ := h; exact ⟨_, h⟩
  case raw => exact h
  case addr => exact h.imp' _ fun _ h => h
  case blk => exact h.imp' _ fun _ h => h

theorem exTy_mono {T : Ty} {K K' : Value → Prop} (hk : ∀ v, K v → K' v) (h : exTy T K) : exTy T K' := by
  cases T <;> simp only [exTy] at h ⊢
  case int => exact h.imp fun _ h => hk _ h
  case bool => exact h.imp fun _ h => hk _ h
  case str => exact h.imp fun _ h => hk _ h
  case ptr => exact h.imp fun _ h => hk _ h
  case slice => obtain ⟨p, l, c, h⟩ := h; exact ⟨p, l, c, hk _ h⟩
  case map => exact h.imp fun _ h => hk _ h
  case agg => obtain ⟨cs, h0, h⟩ := h; exact ⟨cs, h0, hk _ h⟩
  case raw => exact h.imp fun _ h => hk _ h
  case addr => exact h.imp fun _ h => hk _ h
  case blk => exact h.imp fun _ h => hk _ h

theorem exTys_elim : ∀ {ts : List TypeId} {K : List Value → Prop}, exTys P ts K → ∃ vs, K vs
  | [], K, h => ⟨[], h⟩
  | t :: ts, K, h => by
    obtain ⟨v, h⟩ := exTy_elim h
    obtain ⟨vs, h⟩ := exTys_elim h
    exact ⟨v :: vs, h⟩

theorem back_elim {t : TypeId} {v : Value} {K : Value → Prop} (h : back P t v K) : K v := by
  unfold back at h
  split at h
  · obtain ⟨vs, h1, h2⟩ := exTys_elim h; rw [h1]; exact h2
  · obtain ⟨x, h1, h2⟩ := exTy_elim h; rw [h1]; exact h2

theorem exTys_mono : ∀ {ts : List TypeId} {K K' : List Value → Prop}, (∀ v, K v → K' v) → exTys P ts K → exTys P ts K'
  | [], K, K', hk, h => hk _ h
  | t :: ts, K, K', hk, h => exTy_mono (fun v h => exTys_mono (fun vs h => hk _ h) h) h

theorem back_mono {t : TypeId} {v : Value} {K K' : Value → Prop} (hk : ∀ v, K v → K' v) (h : back P t v K) : back P t v K' := by
  unfold back at *
  split
  · rename_i ts ht; simp only [ht] at h
    exact exTys_mono (fun vs h => ⟨h.1, hk _ h.2⟩) h
  · rename_i hn
    split at h
    · rename_i ts ht; exact (hn ts ht).elim
    · exact exTy_mono (fun x h => ⟨h.1, hk _ h.2⟩) h

/-- What an operation of the code does, seen from the heap. -/
def Gives (P : Program) (o : Oper) (a : Act) (w : World) (K : Value → Heap → Prop) : Prop :=
  match (execOp a.eval o).run P w with
  | .ok (.value v) w' => Rest w w' ∧ K v w'.heap
  | .ok .skip w' => Rest w w' ∧ K undef w'.heap
  | .ok (.enter f args) w' => w' = w ∧ CallsH P f args w.heap K
  | _ => False

theorem Gives.value {o : Oper} {a : Act} {w w' : World} {v : Value} {K : Value → Heap → Prop} (h : (execOp a.eval o).run P w = .ok (.value v) w') (hr : Rest w w') (hk : K v w'.heap) : Gives P o a w K := by
  unfold Gives; rw [h]; exact ⟨hr, hk⟩
theorem Gives.skip {o : Oper} {a : Act} {w w' : World} {K : Value → Heap → Prop} (h : (execOp a.eval o).run P w = .ok .skip w') (hr : Rest w w') (hk : K undef w'.heap) : Gives P o a w K := by
  unfold Gives; rw [h]; exact ⟨hr, hk⟩

theorem Rest.refl (w : World) : Rest w w := ⟨rfl, rfl, rfl⟩
theorem Rest.trans {w w' w'' : World} (h : Rest w w') (h' : Rest w' w'') : Rest w w'' := ⟨h'.1.trans h.1, h'.2.1.trans h.2.1, h'.2.2.trans h.2.2⟩

/-- The frame holds what the environment says. -/
def Sim (a : Act) (ρ : Env) : Prop := ∀ t v, ρ.get? t = some v → a.tmps.getD t undef = v

theorem Sim.opv {a : Act} {ρ : Env} (hs : Sim a ρ) : ∀ {x : Operand} {v : Value}, opv ρ x = some v → a.eval x = v
  | .tmp t, v, h => hs t v h
  | .const u, v, h => by simp only [Vc.opv, Option.some.injEq] at h; subst h; rfl
  | .global g, v, h => by simp only [Vc.opv, Option.some.injEq] at h; subst h; rfl
  | .func f, v, h => by simp only [Vc.opv, Option.some.injEq] at h; subst h; rfl

theorem Sim.opvs {a : Act} {ρ : Env} (hs : Sim a ρ) : ∀ {xs : List Operand} {vs : List Value}, opvs ρ xs = some vs → xs.map a.eval = vs
  | [], vs, h => by simp only [Vc.opvs, Option.some.injEq] at h; subst h; rfl
  | x :: r, vs, h => by
    simp only [Vc.opvs] at h
    split at h
    · rename_i v vs' h1 h2
      simp only [Option.some.injEq] at h; subst h
      simp [hs.opv h1, hs.opvs h2]
    · cases h

theorem Sim.pairs {a : Act} {ρ : Env} (hs : Sim a ρ) : ∀ {xs : List (Nat × Operand)} {vs : List (Nat × Value)}, pairs ρ xs = some vs → xs.map (fun (i, x) => (i, a.eval x)) = vs
  | [], vs, h => by simp only [Vc.pairs, Option.some.injEq] at h; subst h; rfl
  | (i, x) :: r, vs, h => by
    simp only [Vc.pairs] at h
    split at h
    · rename_i v vs' h1 h2
      simp only [Option.some.injEq] at h; subst h
      simp [hs.opv h1, hs.pairs h2]
    · cases h

theorem Sim.opvo {a : Act} {ρ : Env} (hs : Sim a ρ) : ∀ {x : Option Operand} {v : Option Value}, opvo ρ x = some v → x.map a.eval = v
  | none, v, h => by simp only [Vc.opvo, Option.some.injEq] at h; subst h; rfl
  | some x, v, h => by
    simp only [Vc.opvo] at h
    obtain ⟨u, hu, rfl⟩ := Option.map_eq_some_iff.1 h
    simp [hs.opv hu]

theorem withV_elim {o : Option Value} {K : Value → Prop} (h : withV o K) : ∃ v, o = some v ∧ K v := by
  cases o with
  | none => exact h.elim
  | some v => exact ⟨v, rfl, h⟩
theorem withI_elim {o : Option Value} {K : Int → Prop} (h : withI o K) : ∃ k n, o = some (.int k n) ∧ K n := by
  unfold withI at h
  split at h
  · exact ⟨_, _, rfl, h⟩
  · exact h.elim

end
end Go.Vc
