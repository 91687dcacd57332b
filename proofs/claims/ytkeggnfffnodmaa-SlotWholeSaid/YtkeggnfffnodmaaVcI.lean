/- Regions in the order of the text, and regions that draw their order. -/
import Derived.Test.YtkeggnfffnodmaaVcH
set_option linter.unusedVariables false
namespace Go.Vc

def okDst (N : Nat) : Option Nat → Bool
  | none => true
  | some d => Nat.blt d N
def goVc (P : Program) (qs : List Nat) (o : Oper) (want t : Bool) (ρ : Env) (h : Heap) (K : Env → Heap → Prop) : Prop :=
  match (match want with | true => t | false => !t) with
  | true => opVc P qs o.op o.type ρ h fun v h' => K (ρ.put o.dst v) h'
  | false => K (ρ.put o.dst undef) h
/-- One operation of a region. -/
def stepVc (P : Program) (qs : List Nat) (N : Nat) (L : List Oper) (o : Oper) (ρ : Env) (h : Heap) (K : Env → Heap → Prop) : Prop :=
  match okDst N o.dst with
  | false => False
  | true => match o.guard with
    | none => opVc P qs o.op o.type ρ h fun v h' => K (ρ.put o.dst v) h'
    | some (j, want) => match (getAt L j).bind (·.dst) with
      | none => False
      | some s => match ρ.get? s with
        | some (.bool b) => br b (goVc P qs o want true ((s, .bool true) :: ρ) h K) (goVc P qs o want false ((s, .bool false) :: ρ) h K)
        | some (.tuple _) => K (ρ.put o.dst undef) h
        | _ => False
def seqVc (P : Program) (qs : List Nat) (N : Nat) (L : List Oper) : List Oper → Env → Heap → (Env → Heap → Prop) → Prop
  | [], ρ, h, K => K ρ h
  | o :: r, ρ, h, K => stepVc P qs N L o ρ h fun ρ' h' => seqVc P qs N L r ρ' h' K

/- ### What a frame says to an environment -/
def SimN (N : Nat) (a : Act) (ρ : Env) : Prop := a.tmps.size = N ∧ a.defers = [] ∧ Sim a ρ

section
variable {P : Program} {qs : List Nat} {N : Nat} {w : World}

theorem get?_cons (ρ : Env) (s t : Nat) (v : Value) : Env.get? ((s, v) :: ρ) t = if s = t then some v else ρ.get? t := by
  simp only [Env.get?]
  by_cases h : s = t
  · subst h; simp
  · have hb : Nat.beq s t = false := by
      cases hb : Nat.beq s t
      · rfl
      · exact absurd (Nat.eq_of_beq_eq_true hb) h
    simp [hb, h]

theorem SimN.put {a : Act} {ρ : Env} (h : SimN N a ρ) {d : Option Nat} {v : Value} (hd : okDst N d = true) : SimN N (a.put d v) (ρ.put d v) := by
  cases d with
  | none => exact h
  | some d =>
    obtain ⟨h1, h2, h3⟩ := h
    have hlt : d < N := by simpa [okDst, Nat.blt_eq] using hd
    refine ⟨by simp [Act.put, h1], h2, fun t u ht => ?_⟩
    simp only [Env.put] at ht
    rw [get?_cons] at ht
    simp only [Act.put, Array.getD_eq_getD_getElem?, Array.getElem?_setIfInBounds]
    split at ht
    · rename_i hdt; subst hdt
      simp only [Option.some.injEq] at ht; subst ht
      simp [h1, hlt]
    · rename_i hdt
      simp only [hdt, if_false]
      have := h3 t u ht
      simpa [Array.getD_eq_getD_getElem?] using this

theorem SimN.same {a : Act} {ρ : Env} (h : SimN N a ρ) {s : Nat} {v : Value} (hs : ρ.get? s = some v) : SimN N a ((s, v) :: ρ) := by
  refine ⟨h.1, h.2.1, fun t u ht => ?_⟩
  rw [get?_cons] at ht
  split at ht
  · rename_i hst; subst hst
    simp only [Option.some.injEq] at ht; subst ht
    exact h.2.2 s v hs
  · exact h.2.2 t u ht

/-- The frame, the heap, the rest. -/
def Post (N : Nat) (w0 : World) (K : Env → Heap → Prop) (a : Act) (w : World) : Prop := ∃ ρ, SimN N a ρ ∧ Rest w0 w ∧ K ρ w.heap

theorem wp_of_gives {o : Oper} {a : Act} {w0 : World} {K : Value → Heap → Prop} {K' : Act → World → Prop} {Q : Exit → Act → World → Prop} (hg : Gives P o a w K) (hr0 : Rest w0 w)
    (hk : ∀ v w', Rest w0 w' → K v w'.heap → K' (a.put o.dst v) w') : o.wp P a w K' Q := by
  unfold Gives at hg
  unfold Oper.wp
  generalize (execOp a.eval o).run P w = r at *
  cases r with
  | halt x w' => exact hg.elim
  | ok n w' =>
    cases n <;> simp only [Oper.upon] at hg ⊢
    case value v => exact hk v w' (hr0.trans hg.1) hg.2
    case skip => exact hk _ w' (hr0.trans hg.1) hg.2
    case enter f args =>
      obtain ⟨rfl, hc⟩ := hg
      exact (hc w' rfl).mono fun e w'' ⟨v, he, hr, hv⟩ => by subst he; exact hk v w'' (hr0.trans hr) hv

theorem yielded_bool {L : List Oper} {a : Act} {ρ : Env} (hs : SimN N a ρ) {j s : Nat} {b : Bool} (hj : (getAt L j).bind (·.dst) = some s) (hg : ρ.get? s = some (.bool b)) :
    yielded L.toArray a.tmps j = some b := by
  unfold yielded
  have hj' : (L.toArray[j]?).bind (·.dst) = some s := by rw [getAt_eq] at hj; simpa using hj
  rw [hj']
  have := hs.2.2 s _ hg
  rw [Array.getD_eq_getD_getElem?] at this
  simp only [Option.bind_some]
  cases ht : a.tmps[s]? with
  | none => rw [ht] at this; simp [undef] at this
  | some v => rw [ht] at this; simp at this; subst this; rfl

theorem yielded_tuple {L : List Oper} {a : Act} {ρ : Env} (hs : SimN N a ρ) {j s : Nat} {vs : Array Value} (hj : (getAt L j).bind (·.dst) = some s) (hg : ρ.get? s = some (.tuple vs)) :
    yielded L.toArray a.tmps j = none := by
  unfold yielded
  have hj' : (L.toArray[j]?).bind (·.dst) = some s := by rw [getAt_eq] at hj; simpa using hj
  rw [hj']
  have := hs.2.2 s _ hg
  rw [Array.getD_eq_getD_getElem?] at this
  simp only [Option.bind_some]
  cases ht : a.tmps[s]? with
  | none => rfl
  | some v => rw [ht] at this; simp at this; subst this; rfl

/-- One operation, as the kit's walks have it. -/
theorem step_sound {L : List Oper} {o : Oper} {a : Act} {ρ : Env} {w0 : World} {K : Env → Heap → Prop} {K' : Act → World → Prop} {Q : Exit → Act → World → Prop} (hs : SimN N a ρ) (hr : Rest w0 w) (h : stepVc P qs N L o ρ w.heap K)
    (hk : ∀ a w, Post N w0 K a w → K' a w) :
    if Region.wanted o (yielded L.toArray a.tmps) then o.wp P a w K' Q ∨ (o.asks P a w ∧ LetsOut Q) else K' (a.put o.dst undef) w := by
  unfold stepVc at h
  split at h
  · exact h.elim
  · rename_i hd
    split at h
    · rename_i hg
      rw [if_pos (by simp [Region.wanted, hg])]
      exact .inl (wp_of_gives (op_sound hs.2.2 h) hr fun v w' hr' hv => hk _ _ ⟨_, hs.put hd, hr', hv⟩)
    · rename_i j want hg
      split at h
      · exact h.elim
      · rename_i s hj
        split at h
        · rename_i b hb
          have hy := yielded_bool hs hj hb
          have hw : Region.wanted o (yielded L.toArray a.tmps) = (b == want) := by simp [Region.wanted, hg, hy]
          rw [hw]
          have hs' : SimN N a ((s, .bool b) :: ρ) := hs.same hb
          cases b <;> cases want
          · rw [if_pos (by rfl)]; exact .inl (wp_of_gives (op_sound hs'.2.2 h) hr fun v w' hr' hv => hk _ _ ⟨_, hs'.put hd, hr', hv⟩)
          · rw [if_neg (by decide)]; exact hk _ _ ⟨_, hs'.put hd, hr, h⟩
          · rw [if_neg (by decide)]; exact hk _ _ ⟨_, hs'.put hd, hr, h⟩
          · rw [if_pos (by rfl)]; exact .inl (wp_of_gives (op_sound hs'.2.2 h) hr fun v w' hr' hv => hk _ _ ⟨_, hs'.put hd, hr', hv⟩)
        · rename_i vs hb
          have hy := yielded_tuple hs hj hb
          have hw : Region.wanted o (yielded L.toArray a.tmps) = false := by simp [Region.wanted, hg, hy]
          rw [hw]
          exact hk _ _ ⟨_, hs.put hd, hr, h⟩
        · exact h.elim

theorem seq_sound {L : List Oper} {Q : Exit → Act → World → Prop} {w0 : World} {K : Env → Heap → Prop} (hk : ∀ a w, Post N w0 K a w → Q .normal a w) : ∀ (l : List Oper) (a : Act) (ρ : Env) (w : World), SimN N a ρ → Rest w0 w → seqVc P qs N L l ρ w.heap K →
    wpList P L.toArray Q l a w
  | [], a, ρ, w, hs, hr, h => hk a w ⟨ρ, hs, hr, h⟩
  | o :: r, a, ρ, w, hs, hr, h => by
    unfold wpList
    exact step_sound (Q := Q) hs hr h fun a' w' ⟨ρ', hs', hr', h'⟩ => seq_sound hk r a' ρ' w' hs' hr' h'
end
end Go.Vc
