/- The calculus of XVcA is sound: every operation that it takes. -/
import Derived.Test.YtkeggnfffnodmaaVcB
set_option linter.unusedVariables false
namespace Go.Vc

section
variable {P : Program} {o : Oper} {a : Act} {w : World} {ρ : Env} {K : Value → Heap → Prop}

theorem eqGuard_run {op : BinOp} {t : TypeId} {x y : Value} {xo yo : Operand} (h1 : ∀ xs ys, ¬ (x = .agg xs ∧ y = .agg ys)) (h2 : ¬ (x = .nilIface ∧ y = .nilIface)) :
    (eqGuard op t xo yo x y).run P w = .ok () w := by
  unfold eqGuard
  generalize (!(match op with | .eql | .neq => true | _ => false)) = b
  cases b
  · simp only [Bool.false_eq_true, if_false]
    cases x <;> cases y <;> first | rfl | exact (h2 ⟨rfl, rfl⟩).elim | exact (h1 _ _ ⟨rfl, rfl⟩).elim
  · rfl

theorem bin_sound {op : BinOp} {t : TypeId} {x y : Value} {xo yo : Operand} {K : Value → Prop} (hnagg : ∀ xs ys, ¬ (x = .agg xs ∧ y = .agg ys)) (h : binVc P op t x y K) :
    ∃ v, (do eqGuard op t xo yo x y; binOp op t x y : Sem Value).run P w = .ok v w ∧ K v := by
  have eqG : ∀ (c : Prop), (∀ xs ys, ¬ (x = .agg xs ∧ y = .agg ys)) → ¬ (x = .nilIface ∧ y = .nilIface) → (eqGuard op t xo yo x y).run P w = .ok () w := fun _ => eqGuard_run
  have ptrEq : ∀ (p q : Option Addr) (K : Bool → Prop) (ht : ∃ e, P.underlying t = some (.pointer e)), nilEq p q K → ∃ r, (Op.equal t (.pointer p) (.pointer q)).run P w = .ok r w ∧ K r := by
    rintro p q K ⟨e, he⟩ hn
    unfold Op.equal Op.maxDepth
    rw [Op.equalIn]
    cases q with
    | none => exact ⟨_, by cases p <;> simp [run_underlying he], hn⟩
    | some q => cases p with
      | none => exact ⟨_, by simp [run_underlying he], hn⟩
      | some p => exact hn.elim
  have slEq : ∀ (p q : Option Addr) (K : Bool → Prop) (ht : ∃ e, P.underlying t = some (.slice e)), nilEq p q K → ∃ r, (∀ l c l' c', (Op.equal t (.slice p l c) (.slice q l' c')).run P w = .ok r w) ∧ K r := by
    rintro p q K ⟨e, he⟩ hn
    unfold Op.equal Op.maxDepth
    cases q with
    | none => exact ⟨_, fun l c l' c' => by rw [Op.equalIn]; cases p <;> simp [run_underlying he], hn⟩
    | some q => cases p with
      | none => exact ⟨_, fun l c l' c' => by rw [Op.equalIn]; simp [run_underlying he], hn⟩
      | some p => exact hn.elim
  have boolEq : ∀ (p q : Bool) (ht : P.underlying t = some .bool), (Op.equal t (.bool p) (.bool q)).run P w = .ok (p == q) w := by
    rintro p q he
    unfold Op.equal Op.maxDepth
    rw [Op.equalIn]
    simp [run_underlying he]
  unfold binVc at h
  split at h
  · obtain ⟨h0, h⟩ := h
    refine ⟨_, ?_, h⟩
    simp only [Sem.run_bind]
    rw [eqG True (by simp) (by simp)]
    simp [binOp, Op.shift, shlI, Int.not_lt.2 h0]
  · obtain ⟨h0, h⟩ := h
    refine ⟨_, ?_, h⟩
    simp only [Sem.run_bind]
    rw [eqG True (by simp) (by simp)]
    simp [binOp, Op.shift, shrI, Int.not_lt.2 h0]
  · rename_i k m k' n hne1 hne2
    have hne1 : op ≠ .shl := hne1
    have hne2 : op ≠ .shr := hne2
    split at h
    · rename_i hk
      subst hk
      simp only [Sem.run_bind]
      rw [eqG True (by simp) (by simp)]
      simp only [Result.andThen_ok]
      unfold intVc at h
      cases op <;> simp only [cmpB] at h
      case quo => exact ⟨_, by simp [binOp, Op.intDiv, h.1], h.2⟩
      case rem => exact ⟨_, by simp [binOp, Op.intDiv, h.1], h.2⟩
      case andNot => exact ⟨_, by simp [binOp, Op.intBits, andNotI], h⟩
      case and => exact ⟨_, by simp [binOp, Op.intBits, andI], h⟩
      case or => exact ⟨_, by simp [binOp, Op.intBits, orI], h⟩
      case xor => exact ⟨_, by simp [binOp, Op.intBits, xorI], h⟩
      case add => exact ⟨_, by simp [binOp, Op.intArith], h⟩
      case sub => exact ⟨_, by simp [binOp, Op.intArith], h⟩
      case mul => exact ⟨_, by simp [binOp, Op.intArith], h⟩
      all_goals exact ⟨_, by simp [binOp, Op.intCmp], h⟩
    · exact h.elim
  all_goals first
    | (refine ⟨_, ?_, h⟩
       simp only [Sem.run_bind]
       rw [eqG True (by simp) (by simp)]
       simp only [Result.andThen_ok, binOp, Op.stringOp, Sem.run_pure]
       done)
    | (split at h
       · rename_i ht
         refine ⟨_, ?_, h⟩
         simp only [Sem.run_bind]
         rw [eqG True (by simp) (by simp)]
         simp only [Result.andThen_ok, binOp, Sem.run_bind]
         first
           | (rw [boolEq _ _ ht]; done)
           | (rw [boolEq _ _ ht]; rfl)
       · exact h.elim)
    | (split at h
       · rename_i ht
         obtain ⟨r, hr, hk⟩ := ptrEq _ _ _ ⟨_, ht⟩ h
         refine ⟨_, ?_, hk⟩
         simp only [Sem.run_bind]
         rw [eqG True (by simp) (by simp)]
         simp only [Result.andThen_ok, binOp, Sem.run_bind, hr, Sem.run_pure]
       · exact h.elim)
    | (split at h
       · rename_i ht
         obtain ⟨r, hr, hk⟩ := slEq _ _ _ ⟨_, ht⟩ h
         refine ⟨_, ?_, hk⟩
         simp only [Sem.run_bind]
         rw [eqG True (by simp) (by simp)]
         simp only [Result.andThen_ok, binOp, Sem.run_bind, hr, Sem.run_pure]
       · exact h.elim)
    | exact h.elim
    | exact (hnagg _ _ ⟨rfl, rfl⟩).elim
end
end Go.Vc
