/- Regions that draw their order: the plan is sound. -/
import Derived.Test.YtkeggnfffnodmaaVcK
set_option linter.unusedVariables false
namespace Go.Vc

section
variable {P : Program} {qs : List Nat} {N : Nat} {L : List Oper}

/-- One operation, by its value. -/
def valVc (P : Program) (qs : List Nat) (N : Nat) (L : List Oper) (o : Oper) (ρ : Env) (h : Heap) (C : Value → Heap → Prop) : Prop :=
  okDst N o.dst = true ∧ match o.guard with
    | none => opVc P qs o.op o.type ρ h C
    | some (j, want) => match (getAt L j).bind (·.dst) with
      | none => False
      | some s => match ρ.get? s with
        | some (.bool b) => if b = want then opVc P qs o.op o.type ρ h C else C undef h
        | some (.tuple _) => C undef h
        | _ => False

theorem valVc_mono {o : Oper} {ρ : Env} {h : Heap} {C C' : Value → Heap → Prop} (hc : ∀ v h, C v h → C' v h) (hv : valVc P qs N L o ρ h C) : valVc P qs N L o ρ h C' := by
  obtain ⟨hd, hv⟩ := hv
  refine ⟨hd, ?_⟩
  cases hg : o.guard with
  | none => simp only [hg] at hv ⊢; exact opVc_mono hc hv
  | some jw =>
    simp only [hg] at hv ⊢
    cases hs : (getAt L jw.1).bind (·.dst) with
    | none => simp only [hs] at hv
    | some s =>
      simp only [hs] at hv ⊢
      split at hv
      · rename_i b hb
        by_cases hbw : b = jw.2
        · simp only [hbw, if_true] at hv ⊢; exact opVc_mono hc hv
        · simp only [hbw, if_false] at hv ⊢; exact hc _ _ hv
      · exact hc _ _ hv
      · exact hv

theorem opv_eq {ρ ρ' : Env} (h : EnvEq ρ ρ') (x : Operand) : opv ρ x = opv ρ' x := by
  cases x <;> simp only [opv]
  exact h _

theorem opv_put {ρ : Env} {x : Operand} {d : Option Nat} {v : Value} (h : ∀ t, d = some t → x ≠ .tmp t) : opv (ρ.put d v) x = opv ρ x := by
  cases d with
  | none => rfl
  | some d =>
    cases x <;> simp only [opv, Env.put]
    rename_i t
    rw [get?_cons]
    have := h d rfl
    split
    · rename_i hdt; subst hdt; exact (this rfl).elim
    · rfl

theorem get?_put {ρ : Env} {d : Option Nat} {v : Value} {t : Nat} (h : d ≠ some t) : (ρ.put d v).get? t = ρ.get? t := by
  cases d with
  | none => rfl
  | some d =>
    simp only [Env.put, get?_cons]
    split
    · rename_i hdt; subst hdt; exact (h rfl).elim
    · rfl

theorem getAt_toArray (L : List Oper) (j : Nat) : (L.toArray)[j]? = getAt L j := by rw [getAt_eq]; simp

/-- A slot at which the operation does not look makes no difference to it. -/
theorem valVc_put {o : Oper} {ρ : Env} {h : Heap} {C : Value → Heap → Prop} {d : Option Nat} {v : Value} (hl : ∀ t, d = some t → t ∉ o.looksAt L.toArray) :
    valVc P qs N L o (ρ.put d v) h C = valVc P qs N L o ρ h C := by
  have hops : ∀ x ∈ o.op.operands, opv (ρ.put d v) x = opv ρ x := fun x hx => opv_put fun t ht hxt => by
    subst hxt
    refine hl t ht ?_
    unfold Oper.looksAt
    simp only [List.mem_append, List.mem_filterMap]
    exact .inl ⟨.tmp t, Array.mem_toList_iff.2 hx, rfl⟩
  unfold valVc
  cases hg : o.guard with
  | none => simp only [opVc_congr hops]
  | some jw =>
    obtain ⟨j, want⟩ := jw
    simp only
    cases hs : (getAt L j).bind (·.dst) with
    | none => rfl
    | some s =>
      have hne : d ≠ some s := fun hd => by
        refine hl s hd ?_
        unfold Oper.looksAt
        simp only [List.mem_append, hg]
        right
        rw [getAt_toArray, hs]
        simp
      simp only [get?_put hne]
      split
      · rw [opVc_congr hops]
      · rfl
      · rfl

theorem EnvEq.put {ρ ρ' : Env} (h : EnvEq ρ ρ') (d : Option Nat) (v : Value) : EnvEq (ρ.put d v) (ρ'.put d v) := by
  intro t
  cases d with
  | none => exact h t
  | some d => simp only [Env.put, get?_cons]; split <;> first | rfl | exact h t

theorem valVc_eq {o : Oper} {ρ ρ' : Env} {h : Heap} {C : Value → Heap → Prop} (he : EnvEq ρ ρ') : valVc P qs N L o ρ h C = valVc P qs N L o ρ' h C := by
  have hops : ∀ x ∈ o.op.operands, opv ρ x = opv ρ' x := fun x _ => opv_eq he x
  unfold valVc
  split
  · rw [opVc_congr hops]
  · split
    · rfl
    · rename_i s _
      rw [he s]
      split
      · rw [opVc_congr hops]
      · rfl
      · rfl

theorem step_val {o : Oper} {ρ ρ' : Env} {h : Heap} {K : Env → Heap → Prop} (he : EnvEq ρ ρ') (hs : stepVc P qs N L o ρ h K) :
    valVc P qs N L o ρ' h fun v h' => ∃ ρ1, EnvEq ρ1 (ρ'.put o.dst v) ∧ K ρ1 h' := by
  rw [← valVc_eq he]
  unfold stepVc at hs
  unfold valVc
  cases hd : okDst N o.dst with
  | false => simp only [hd] at hs
  | true =>
    simp only [hd] at hs
    refine ⟨rfl, ?_⟩
    cases hg : o.guard with
    | none =>
      simp only [hg] at hs ⊢
      exact opVc_mono (fun v h' hk => ⟨_, he.put _ _, hk⟩) hs
    | some jw =>
      obtain ⟨j, want⟩ := jw
      simp only [hg] at hs ⊢
      cases hsl : (getAt L j).bind (·.dst) with
      | none => simp only [hsl] at hs
      | some s =>
        simp only [hsl] at hs ⊢
        split at hs
        · rename_i b hb
          have hsame : EnvEq ((s, .bool b) :: ρ) ρ := by
            intro t; rw [get?_cons]; split
            · rename_i hst; subst hst; exact hb.symm
            · rfl
          have hsame' : EnvEq ((s, .bool b) :: ρ) ρ' := fun t => (hsame t).trans (he t)
          simp only [hb]
          cases b <;> cases want <;> simp only [br, goVc, Bool.not_true, Bool.not_false] at hs
          · rw [if_pos rfl, ← opVc_congr (ρ := (s, .bool false) :: ρ) (fun x _ => opv_eq hsame x)]
            exact opVc_mono (fun v h' hk => ⟨_, hsame'.put _ _, hk⟩) hs
          · rw [if_neg (by decide)]
            exact ⟨_, hsame'.put _ _, hs⟩
          · rw [if_neg (by decide)]
            exact ⟨_, hsame'.put _ _, hs⟩
          · rw [if_pos rfl, ← opVc_congr (ρ := (s, .bool true) :: ρ) (fun x _ => opv_eq hsame x)]
            exact opVc_mono (fun v h' hk => ⟨_, hsame'.put _ _, hk⟩) hs
        · rename_i vs hb
          simp only [hb]
          exact ⟨_, he.put _ _, hs⟩
        · exact hs.elim

/-- Back to frames. -/
theorem val_sound {o : Oper} {a : Act} {ρ : Env} {w0 w : World} {C : Value → Heap → Prop} {K' : Act → World → Prop} {Q : Exit → Act → World → Prop} (hs : SimN N a ρ) (hr : Rest w0 w) (h : valVc P qs N L o ρ w.heap C)
    (hk : ∀ a v w, SimN N a (ρ.put o.dst v) → Rest w0 w → C v w.heap → K' a w) :
    if Region.wanted o (yielded L.toArray a.tmps) then o.wp P a w K' Q ∨ (o.asks P a w ∧ LetsOut Q) else K' (a.put o.dst undef) w := by
  obtain ⟨hd, h⟩ := h
  cases hg : o.guard with
  | none =>
    simp only [hg] at h
    rw [if_pos (by simp [Region.wanted, hg])]
    exact .inl (wp_of_gives (op_sound hs.2.2 h) hr fun v w' hr' hv => hk _ v w' (hs.put hd) hr' hv)
  | some jw =>
    obtain ⟨j, want⟩ := jw
    simp only [hg] at h
    split at h
    · exact h.elim
    · rename_i s hj
      split at h
      · rename_i b hb
        have hy := yielded_bool hs hj hb
        have hw : Region.wanted o (yielded L.toArray a.tmps) = (b == want) := by simp [Region.wanted, hg, hy]
        rw [hw]
        split at h
        · rename_i hbw
          rw [if_pos (by simp [hbw])]
          exact .inl (wp_of_gives (op_sound hs.2.2 h) hr fun v w' hr' hv => hk _ v w' (hs.put hd) hr' hv)
        · rename_i hbw
          rw [if_neg (by simp [hbw])]
          exact hk _ _ _ (hs.put hd) hr h
      · rename_i vs hb
        have hy := yielded_tuple hs hj hb
        have hw : Region.wanted o (yielded L.toArray a.tmps) = false := by simp [Region.wanted, hg, hy]
        rw [hw]
        exact hk _ _ _ (hs.put hd) hr h
      · exact h.elim

/-- Whatever order is picked from here on. -/
def anyVc (P : Program) (qs : List Nat) (N : Nat) (L : List Oper) (K : Env → Heap → Prop) : Nat → Array Bool → Env → Heap → Prop
  | 0, listed, ρ, h => Region.ready .any L.toArray listed = [] ∧ K ρ h
  | f + 1, listed, ρ, h => (Region.ready .any L.toArray listed = [] → K ρ h) ∧
    ∀ i ∈ Region.ready .any L.toArray listed, ∃ o, getAt L i = some o ∧ valVc P qs N L o ρ h fun v h' => anyVc P qs N L K f (listed.setIfInBounds i true) (ρ.put o.dst v) h'

theorem any_even {K : Env → Heap → Prop} (hK : Even K) : ∀ (f : Nat) (listed : Array Bool) (ρ ρ' : Env) (h : Heap), EnvEq ρ ρ' → anyVc P qs N L K f listed ρ h → anyVc P qs N L K f listed ρ' h
  | 0, listed, ρ, ρ', h, he, ha => ⟨ha.1, hK _ _ _ he ha.2⟩
  | f + 1, listed, ρ, ρ', h, he, ha => ⟨fun hr => hK _ _ _ he (ha.1 hr), fun i hi => by
      obtain ⟨o, ho, hv⟩ := ha.2 i hi
      refine ⟨o, ho, ?_⟩
      rw [← valVc_eq he]
      exact valVc_mono (fun v h' hh => any_even hK f _ _ _ h' (he.put _ _) hh) hv⟩

theorem any_sound {K : Env → Heap → Prop} {Q : Exit → Act → World → Prop} {w0 : World} (hk : ∀ a w, Post N w0 K a w → Q .normal a w) : ∀ (f : Nat) (listed : Array Bool) (a : Act) (ρ : Env) (w : World), SimN N a ρ → Rest w0 w →
    anyVc P qs N L K f listed ρ w.heap → wpAny P .any L.toArray Q f listed a w
  | 0, listed, a, ρ, w, hs, hr, ha => ⟨ha.1, hk _ _ ⟨ρ, hs, hr, ha.2⟩⟩
  | f + 1, listed, a, ρ, w, hs, hr, ha => ⟨fun h0 => hk _ _ ⟨ρ, hs, hr, ha.1 h0⟩, fun i hi => by
      obtain ⟨o, ho, hv⟩ := ha.2 i hi
      unfold wpOp
      rw [getAt_toArray, ho]
      exact val_sound hs hr hv fun a' v w' hs' hr' hc => any_sound hk f _ a' _ w' hs' hr' hc⟩

theorem val_read {o : Oper} {ρ : Env} {h : Heap} {C : Value → Heap → Prop} (hq : readB o.op = true) (hv : valVc P qs N L o ρ h C) : ∃ v, C v h ∧ ∀ (h' : Heap) (C' : Value → Heap → Prop), Ext h h' → C' v h' → valVc P qs N L o ρ h' C' := by
  obtain ⟨hd, hv⟩ := hv
  unfold valVc
  cases hg : o.guard with
  | none =>
    simp only [hg] at hv ⊢
    obtain ⟨v, h1, h2⟩ := read_one hq hv; exact ⟨v, h1, fun h' C' he hc => ⟨hd, h2 h' C' he hc⟩⟩
  | some jw =>
    simp only [hg] at hv ⊢
    cases hs : (getAt L jw.1).bind (·.dst) with
    | none => simp only [hs] at hv
    | some s =>
      simp only [hs] at hv ⊢
      split at hv
      · rename_i b hb
        by_cases hbw : b = jw.2
        · simp only [hbw, if_true] at hv ⊢
          obtain ⟨v, h1, h2⟩ := read_one hq hv; exact ⟨v, h1, fun h' C' he hc => ⟨hd, h2 h' C' he hc⟩⟩
        · simp only [hbw, if_false] at hv ⊢
          exact ⟨_, hv, fun h' C' _ hc => ⟨hd, hc⟩⟩
      · exact ⟨_, hv, fun h' C' _ hc => ⟨hd, hc⟩⟩
      · exact hv.elim

theorem val_grow {o : Oper} {ρ : Env} {h : Heap} {C : Value → Heap → Prop} (hq : growB P qs o.op = true) (hv : valVc P qs N L o ρ h C) : valVc P qs N L o ρ h fun v h' => C v h' ∧ Ext h h' := by
  obtain ⟨hd, hv⟩ := hv
  refine ⟨hd, ?_⟩
  cases hg : o.guard with
  | none => simp only [hg] at hv ⊢; exact grow_one hq hv
  | some jw =>
    simp only [hg] at hv ⊢
    cases hs : (getAt L jw.1).bind (·.dst) with
    | none => simp only [hs] at hv
    | some s =>
      simp only [hs] at hv ⊢
      split at hv
      · rename_i b hb
        by_cases hbw : b = jw.2
        · simp only [hbw, if_true] at hv ⊢; exact grow_one hq hv
        · simp only [hbw, if_false] at hv ⊢; exact ⟨hv, Ext.refl h⟩
      · exact ⟨hv, Ext.refl h⟩
      · exact hv.elim

theorem val_pure {o : Oper} {ρ : Env} {h : Heap} {C : Value → Heap → Prop} (hq : pureB P o.op = true) (hv : valVc P qs N L o ρ h C) : ∃ v, C v h ∧ ∀ (h' : Heap) (C' : Value → Heap → Prop), C' v h' → valVc P qs N L o ρ h' C' := by
  obtain ⟨hd, hv⟩ := hv
  unfold valVc
  cases hg : o.guard with
  | none =>
    simp only [hg] at hv ⊢
    obtain ⟨v, h1, h2⟩ := pure_one hq hv; exact ⟨v, h1, fun h' C' hc => ⟨hd, h2 h' C' hc⟩⟩
  | some jw =>
    simp only [hg] at hv ⊢
    cases hs : (getAt L jw.1).bind (·.dst) with
    | none => simp only [hs] at hv
    | some s =>
      simp only [hs] at hv ⊢
      split at hv
      · rename_i b hb
        by_cases hbw : b = jw.2
        · simp only [hbw, if_true] at hv ⊢
          obtain ⟨v, h1, h2⟩ := pure_one hq hv; exact ⟨v, h1, fun h' C' hc => ⟨hd, h2 h' C' hc⟩⟩
        · simp only [hbw, if_false] at hv ⊢
          exact ⟨_, hv, fun h' C' hc => ⟨hd, hc⟩⟩
      · exact ⟨_, hv, fun h' C' hc => ⟨hd, hc⟩⟩
      · exact hv.elim

theorem put_swap {ρ : Env} {x y : Option Nat} {v u : Value} (h : ∀ d, x = some d → y ≠ some d) : EnvEq ((ρ.put x v).put y u) ((ρ.put y u).put x v) := by
  intro t
  cases x with
  | none => rfl
  | some x =>
    cases y with
    | none => rfl
    | some y =>
      simp only [Env.put, get?_cons]
      have := h x rfl
      split <;> split <;> first | rfl | (rename_i h1 h2; subst h1; subst h2; exact (this rfl).elim)

/-- An operation that may come now may be taken first. 'W': which lists of what has come up are met; 'pure': it only computes, or else whatever else may come up while it has not is quiet. -/
theorem any_first {K : Env → Heap → Prop} (hK : Even K) {i : Nat} {oi : Oper} (hoi : getAt L i = some oi) (W : Array Bool → Prop)
    (hW : ∀ listed, W listed → ∀ j ∈ Region.ready .any L.toArray listed, j ≠ i → W (listed.setIfInBounds j true))
    (hap : ∀ listed, W listed → ∀ j oj, getAt L j = some oj → j ≠ i → j ∈ Region.ready .any L.toArray listed → i ∈ Region.ready .any L.toArray listed → oi.apart L.toArray oj = true)
    (v : Value) (Y : Env → Heap → Prop)
    (hY : ∀ ρ h, Y ρ h → ∀ C : Value → Heap → Prop, C v h → valVc P qs N L oi ρ h C)
    (hstep : ∀ listed ρ h j oj, W listed → getAt L j = some oj → j ≠ i → j ∈ Region.ready .any L.toArray listed → i ∈ Region.ready .any L.toArray listed → Y ρ h →
      ∀ C : Value → Heap → Prop, valVc P qs N L oj ρ h C → valVc P qs N L oj ρ h fun u h' => C u h' ∧ Y (ρ.put oj.dst u) h') :
    ∀ (f : Nat) (listed : Array Bool) (ρ : Env) (h : Heap), W listed → i ∈ Region.ready .any L.toArray listed → Y ρ h →
      anyVc P qs N L K f (listed.setIfInBounds i true) (ρ.put oi.dst v) h → anyVc P qs N L K (f + 1) listed ρ h := by
  intro f
  induction f with
  | zero =>
    intro listed ρ h hw hi hy H
    refine ⟨fun h0 => (by rw [h0] at hi; cases hi), fun j hj => ?_⟩
    by_cases hji : j = i
    · subst hji; exact ⟨oi, hoi, hY _ _ hy _ H⟩
    · have := ready_mono hj hji
      rw [H.1] at this
      cases this
  | succ f ih =>
    intro listed ρ h hw hi hy H
    refine ⟨fun h0 => (by rw [h0] at hi; cases hi), fun j hj => ?_⟩
    by_cases hji : j = i
    · subst hji; exact ⟨oi, hoi, hY _ _ hy _ H⟩
    · obtain ⟨oj, hoj, hv⟩ := H.2 j (ready_mono hj hji)
      refine ⟨oj, hoj, ?_⟩
      obtain ⟨h1, h2, h3⟩ := Oper.apart_spec (hap listed hw j oj hoj hji hj hi)
      rw [valVc_put h1] at hv
      refine valVc_mono (fun u h' hu => ?_) (hstep listed ρ h j oj hw hoj hji hj hi hy _ hv)
      obtain ⟨hu, hy'⟩ := hu
      refine ih (listed.setIfInBounds j true) (ρ.put oj.dst u) h' (hW listed hw j hj hji) (ready_mono hi (Ne.symm hji)) hy' ?_
      rw [Array.setIfInBounds_comm _ _ hji]
      exact any_even hK f _ _ _ h' (put_swap h2) hu
end
end Go.Vc
