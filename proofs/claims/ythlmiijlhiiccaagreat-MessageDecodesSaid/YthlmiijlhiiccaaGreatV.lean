/- Regions that draw their order: the plan is sound. -/
import Derived.Test.YthlmiijlhiiccaaGreatV0
import Derived.Deep.LoopGhost
import Derived.Scope
set_option linter.unusedVariables false
namespace Go.Vc

section
variable {P : Program} {qs : List Nat} {N : Nat} {L : List Oper}

/-- One operation, by its value. -/
def valVc (P : Program) (qs : List Nat) (N : Nat) (L : List Oper) (o : Oper) (ρ : Env) (h : Heap) (C : Value → Heap → Prop) : Prop :=
  okDst N o.dst = true ∧ match o.guard with
    | none => opVc P qs o.op o.type ρ h C
    | some (j, want) => match (getAt L j).bind (·.dst) with
      | none => False
      | some s => match ρ.get? s with
        | some (.bool b) => if b = want then opVc P qs o.op o.type ρ h C else C undef h
        | some (.tuple _) => C undef h
        | _ => False

theorem valVc_mono {o : Oper} {ρ : Env} {h : Heap} {C C' : Value → Heap → Prop} (hc : ∀ v h, C v h → C' v h) (hv : valVc P qs N L o ρ h C) : valVc P qs N L o ρ h C' := by
  obtain ⟨hd, hv⟩ := hv
  refine ⟨hd, ?_⟩
  cases hg : o.guard with
  | none => simp only [hg] at hv ⊢; exact opVc_mono hc hv
  | some jw =>
    simp only [hg] at hv ⊢
    cases hs : (getAt L jw.1).bind (·.dst) with
    | none => simp only [hs] at hv
    | some s =>
      simp only [hs] at hv ⊢
      split at hv
      · rename_i b hb
        by_cases hbw : b = jw.2
        · simp only [hbw, if_true] at hv ⊢; exact opVc_mono hc hv
        · simp only [hbw, if_false] at hv ⊢; exact hc _ _ hv
      · exact hc _ _ hv
      · exact hv

theorem opv_eq {ρ ρ' : Env} (h : EnvEq ρ ρ') (x : Operand) : opv ρ x = opv ρ' x := by
  cases x <;> simp only [opv]
  exact h _

theorem opv_put {ρ : Env} {x : Operand} {d : Option Nat} {v : Value} (h : ∀ t, d = some t → x ≠ .tmp t) : opv (ρ.put d v) x = opv ρ x := by
  cases d with
  | none => rfl
  | some d =>
    cases x <;> simp only [opv, Env.put]
    rename_i t
    rw [get?_cons]
    have := h d rfl
    split
    · rename_i hdt; subst hdt; exact (this rfl).elim
    · rfl

theorem get?_put {ρ : Env} {d : Option Nat} {v : Value} {t : Nat} (h : d ≠ some t) : (ρ.put d v).get? t = ρ.get? t := by
  cases d with
  | none => rfl
  | some d =>
    simp only [Env.put, get?_cons]
    split
    · rename_i hdt; subst hdt; exact (h rfl).elim
    · rfl

theorem getAt_toArray (L : List Oper) (j : Nat) : (L.toArray)[j]? = getAt L j := by rw [getAt_eq]; simp

/-- A slot at which the operation does not look makes no difference to it. -/
theorem valVc_put {o : Oper} {ρ : Env} {h : Heap} {C : Value → Heap → Prop} {d : Option Nat} {v : Value} (hl : ∀ t, d = some t → t ∉ o.looksAt L.toArray) :
    valVc P qs N L o (ρ.put d v) h C = valVc P qs N L o ρ h C := by
  have hops : ∀ x ∈ o.op.operands, opv (ρ.put d v) x = opv ρ x := fun x hx => opv_put fun t ht hxt => by
    subst hxt
    refine hl t ht ?_
    unfold Oper.looksAt
    simp only [List.mem_append, List.mem_filterMap]
    exact .inl ⟨.tmp t, Array.mem_toList_iff.2 hx, rfl⟩
  unfold valVc
  cases hg : o.guard with
  | none => simp only [opVc_congr hops]
  | some jw =>
    obtain ⟨j, want⟩ := jw
    simp only
    cases hs : (getAt L j).bind (·.dst) with
    | none => rfl
    | some s =>
      have hne : d ≠ some s := fun hd => by
        refine hl s hd ?_
        unfold Oper.looksAt
        simp only [List.mem_append, hg]
        right
        rw [getAt_toArray, hs]
        simp
      simp only [get?_put hne]
      split
      · rw [opVc_congr hops]
      · rfl
      · rfl

theorem EnvEq.put {ρ ρ' : Env} (h : EnvEq ρ ρ') (d : Option Nat) (v : Value) : EnvEq (ρ.put d v) (ρ'.put d v) := by
  intro t
  cases d with
  | none => exact h t
  | some d => simp only [Env.put, get?_cons]; split <;> first | rfl | exact h t

theorem valVc_eq {o : Oper} {ρ ρ' : Env} {h : Heap} {C : Value → Heap → Prop} (he : EnvEq ρ ρ') : valVc P qs N L o ρ h C = valVc P qs N L o ρ' h C := by
  have hops : ∀ x ∈ o.op.operands, opv ρ x = opv ρ' x := fun x _ => opv_eq he x
  unfold valVc
  split
  · rw [opVc_congr hops]
  · split
    · rfl
    · rename_i s _
      rw [he s]
      split
      · rw [opVc_congr hops]
      · rfl
      · rfl

theorem step_val {o : Oper} {ρ ρ' : Env} {h : Heap} {K : Env → Heap → Prop} (he : EnvEq ρ ρ') (hs : stepVc P qs N L o ρ h K) :
    valVc P qs N L o ρ' h fun v h' => ∃ ρ1, EnvEq ρ1 (ρ'.put o.dst v) ∧ K ρ1 h' := by
  rw [← valVc_eq he]
  unfold stepVc at hs
  unfold valVc
  cases hd : okDst N o.dst with
  | false => simp only [hd] at hs
  | true =>
    simp only [hd] at hs
    refine ⟨rfl, ?_⟩
    cases hg : o.guard with
    | none =>
      simp only [hg] at hs ⊢
      exact opVc_mono (fun v h' hk => ⟨_, he.put _ _, hk⟩) hs
    | some jw =>
      obtain ⟨j, want⟩ := jw
      simp only [hg] at hs ⊢
      cases hsl : (getAt L j).bind (·.dst) with
      | none => simp only [hsl] at hs
      | some s =>
        simp only [hsl] at hs ⊢
        split at hs
        · rename_i b hb
          have hsame : EnvEq ((s, .bool b) :: ρ) ρ := by
            intro t; rw [get?_cons]; split
            · rename_i hst; subst hst; exact hb.symm
            · rfl
          have hsame' : EnvEq ((s, .bool b) :: ρ) ρ' := fun t => (hsame t).trans (he t)
          simp only [hb]
          cases b <;> cases want <;> simp only [br, goVc, Bool.not_true, Bool.not_false] at hs
          · rw [if_pos rfl, ← opVc_congr (ρ := (s, .bool false) :: ρ) (fun x _ => opv_eq hsame x)]
            exact opVc_mono (fun v h' hk => ⟨_, hsame'.put _ _, hk⟩) hs
          · rw [if_neg (by decide)]
            exact ⟨_, hsame'.put _ _, hs⟩
          · rw [if_neg (by decide)]
            exact ⟨_, hsame'.put _ _, hs⟩
          · rw [if_pos rfl, ← opVc_congr (ρ := (s, .bool true) :: ρ) (fun x _ => opv_eq hsame x)]
            exact opVc_mono (fun v h' hk => ⟨_, hsame'.put _ _, hk⟩) hs
        · rename_i vs hb
          simp only [hb]
          exact ⟨_, he.put _ _, hs⟩
        · exact hs.elim

/-- Back to frames. -/
theorem val_sound {o : Oper} {a : Act} {ρ : Env} {w0 w : World} {C : Value → Heap → Prop} {K' : Act → World → Prop} {Q : Exit → Act → World → Prop} (hs : SimN N a ρ) (hr : Rest w0 w) (h : valVc P qs N L o ρ w.heap C)
    (hk : ∀ a v w, SimN N a (ρ.put o.dst v) → Rest w0 w → C v w.heap → K' a w) :
    if Region.wanted o (yielded L.toArray a.tmps) then o.wp P a w K' Q ∨ (o.asks P a w ∧ LetsOut Q) else K' (a.put o.dst undef) w := by
  obtain ⟨hd, h⟩ := h
  cases hg : o.guard with
  | none =>
    simp only [hg] at h
    rw [if_pos (by simp [Region.wanted, hg])]
    exact .inl (wp_of_gives (op_sound hs.2.2 h) hr fun v w' hr' hv => hk _ v w' (hs.put hd) hr' hv)
  | some jw =>
    obtain ⟨j, want⟩ := jw
    simp only [hg] at h
    split at h
    · exact h.elim
    · rename_i s hj
      split at h
      · rename_i b hb
        have hy := yielded_bool hs hj hb
        have hw : Region.wanted o (yielded L.toArray a.tmps) = (b == want) := by simp [Region.wanted, hg, hy]
        rw [hw]
        split at h
        · rename_i hbw
          rw [if_pos (by simp [hbw])]
          exact .inl (wp_of_gives (op_sound hs.2.2 h) hr fun v w' hr' hv => hk _ v w' (hs.put hd) hr' hv)
        · rename_i hbw
          rw [if_neg (by simp [hbw])]
          exact hk _ _ _ (hs.put hd) hr h
      · rename_i vs hb
        have hy := yielded_tuple hs hj hb
        have hw : Region.wanted o (yielded L.toArray a.tmps) = false := by simp [Region.wanted, hg, hy]
        rw [hw]
        exact hk _ _ _ (hs.put hd) hr h
      · exact h.elim

/-- Whatever order is picked from here on. -/
def anyVc (P : Program) (qs : List Nat) (N : Nat) (L : List Oper) (K : Env → Heap → Prop) : Nat → Array Bool → Env → Heap → Prop
  | 0, listed, ρ, h => Region.ready .any L.toArray listed = [] ∧ K ρ h
  | f + 1, listed, ρ, h => (Region.ready .any L.toArray listed = [] → K ρ h) ∧
    ∀ i ∈ Region.ready .any L.toArray listed, ∃ o, getAt L i = some o ∧ valVc P qs N L o ρ h fun v h' => anyVc P qs N L K f (listed.setIfInBounds i true) (ρ.put o.dst v) h'

theorem any_even {K : Env → Heap → Prop} (hK : Even K) : ∀ (f : Nat) (listed : Array Bool) (ρ ρ' : Env) (h : Heap), EnvEq ρ ρ' → anyVc P qs N L K f listed ρ h → anyVc P qs N L K f listed ρ' h
  | 0, listed, ρ, ρ', h, he, ha => ⟨ha.1, hK _ _ _ he ha.2⟩
  | f + 1, listed, ρ, ρ', h, he, ha => ⟨fun hr => hK _ _ _ he (ha.1 hr), fun i hi => by
      obtain ⟨o, ho, hv⟩ := ha.2 i hi
      refine ⟨o, ho, ?_⟩
      rw [← valVc_eq he]
      exact valVc_mono (fun v h' hh => any_even hK f _ _ _ h' (he.put _ _) hh) hv⟩

theorem any_sound {K : Env → Heap → Prop} {Q : Exit → Act → World → Prop} {w0 : World} (hk : ∀ a w, Post N w0 K a w → Q .normal a w) : ∀ (f : Nat) (listed : Array Bool) (a : Act) (ρ : Env) (w : World), SimN N a ρ → Rest w0 w →
    anyVc P qs N L K f listed ρ w.heap → wpAny P .any L.toArray Q f listed a w
  | 0, listed, a, ρ, w, hs, hr, ha => ⟨ha.1, hk _ _ ⟨ρ, hs, hr, ha.2⟩⟩
  | f + 1, listed, a, ρ, w, hs, hr, ha => ⟨fun h0 => hk _ _ ⟨ρ, hs, hr, ha.1 h0⟩, fun i hi => by
      obtain ⟨o, ho, hv⟩ := ha.2 i hi
      unfold wpOp
      rw [getAt_toArray, ho]
      exact val_sound hs hr hv fun a' v w' hs' hr' hc => any_sound hk f _ a' _ w' hs' hr' hc⟩

theorem val_read {o : Oper} {ρ : Env} {h : Heap} {C : Value → Heap → Prop} (hq : readB o.op = true) (hv : valVc P qs N L o ρ h C) : ∃ v, C v h ∧ ∀ (h' : Heap) (C' : Value → Heap → Prop), Ext h h' → C' v h' → valVc P qs N L o ρ h' C' := by
  obtain ⟨hd, hv⟩ := hv
  unfold valVc
  cases hg : o.guard with
  | none =>
    simp only [hg] at hv ⊢
    obtain ⟨v, h1, h2⟩ := read_one hq hv; exact ⟨v, h1, fun h' C' he hc => ⟨hd, h2 h' C' he hc⟩⟩
  | some jw =>
    simp only [hg] at hv ⊢
    cases hs : (getAt L jw.1).bind (·.dst) with
    | none => simp only [hs] at hv
    | some s =>
      simp only [hs] at hv ⊢
      split at hv
      · rename_i b hb
        by_cases hbw : b = jw.2
        · simp only [hbw, if_true] at hv ⊢
          obtain ⟨v, h1, h2⟩ := read_one hq hv; exact ⟨v, h1, fun h' C' he hc => ⟨hd, h2 h' C' he hc⟩⟩
        · simp only [hbw, if_false] at hv ⊢
          exact ⟨_, hv, fun h' C' _ hc => ⟨hd, hc⟩⟩
      · exact ⟨_, hv, fun h' C' _ hc => ⟨hd, hc⟩⟩
      · exact hv.elim

theorem val_grow {o : Oper} {ρ : Env} {h : Heap} {C : Value → Heap → Prop} (hq : growB P qs o.op = true) (hv : valVc P qs N L o ρ h C) : valVc P qs N L o ρ h fun v h' => C v h' ∧ Ext h h' := by
  obtain ⟨hd, hv⟩ := hv
  refine ⟨hd, ?_⟩
  cases hg : o.guard with
  | none => simp only [hg] at hv ⊢; exact grow_one hq hv
  | some jw =>
    simp only [hg] at hv ⊢
    cases hs : (getAt L jw.1).bind (·.dst) with
    | none => simp only [hs] at hv
    | some s =>
      simp only [hs] at hv ⊢
      split at hv
      · rename_i b hb
        by_cases hbw : b = jw.2
        · simp only [hbw, if_true] at hv ⊢; exact grow_one hq hv
        · simp only [hbw, if_false] at hv ⊢; exact ⟨hv, Ext.refl h⟩
      · exact ⟨hv, Ext.refl h⟩
      · exact hv.elim

theorem val_pure {o : Oper} {ρ : Env} {h : Heap} {C : Value → Heap → Prop} (hq : pureB P o.op = true) (hv : valVc P qs N L o ρ h C) : ∃ v, C v h ∧ ∀ (h' : Heap) (C' : Value → Heap → Prop), C' v h' → valVc P qs N L o ρ h' C' := by
  obtain ⟨hd, hv⟩ := hv
  unfold valVc
  cases hg : o.guard with
  | none =>
    simp only [hg] at hv ⊢
    obtain ⟨v, h1, h2⟩ := pure_one hq hv; exact ⟨v, h1, fun h' C' hc => ⟨hd, h2 h' C' hc⟩⟩
  | some jw =>
    simp only [hg] at hv ⊢
    cases hs : (getAt L jw.1).bind (·.dst) with
    | none => simp only [hs] at hv
    | some s =>
      simp only [hs] at hv ⊢
      split at hv
      · rename_i b hb
        by_cases hbw : b = jw.2
        · simp only [hbw, if_true] at hv ⊢
          obtain ⟨v, h1, h2⟩ := pure_one hq hv; exact ⟨v, h1, fun h' C' hc => ⟨hd, h2 h' C' hc⟩⟩
        · simp only [hbw, if_false] at hv ⊢
          exact ⟨_, hv, fun h' C' hc => ⟨hd, hc⟩⟩
      · exact ⟨_, hv, fun h' C' hc => ⟨hd, hc⟩⟩
      · exact hv.elim

theorem put_swap {ρ : Env} {x y : Option Nat} {v u : Value} (h : ∀ d, x = some d → y ≠ some d) : EnvEq ((ρ.put x v).put y u) ((ρ.put y u).put x v) := by
  intro t
  cases x with
  | none => rfl
  | some x =>
    cases y with
    | none => rfl
    | some y =>
      simp only [Env.put, get?_cons]
      have := h x rfl
      split <;> split <;> first | rfl | (rename_i h1 h2; subst h1; subst h2; exact (this rfl).elim)

/-- An operation that may come now may be taken first. 'W': which lists of what has come up are met; 'pure': it only computes, or else whatever else may come up while it has not is quiet. -/
theorem any_first {K : Env → Heap → Prop} (hK : Even K) {i : Nat} {oi : Oper} (hoi : getAt L i = some oi) (W : Array Bool → Prop)
    (hW : ∀ listed, W listed → ∀ j ∈ Region.ready .any L.toArray listed, j ≠ i → W (listed.setIfInBounds j true))
    (hap : ∀ listed, W listed → ∀ j oj, getAt L j = some oj → j ≠ i → j ∈ Region.ready .any L.toArray listed → i ∈ Region.ready .any L.toArray listed → oi.apart L.toArray oj = true)
    (v : Value) (Y : Env → Heap → Prop)
    (hY : ∀ ρ h, Y ρ h → ∀ C : Value → Heap → Prop, C v h → valVc P qs N L oi ρ h C)
    (hstep : ∀ listed ρ h j oj, W listed → getAt L j = some oj → j ≠ i → j ∈ Region.ready .any L.toArray listed → i ∈ Region.ready .any L.toArray listed → Y ρ h →
      ∀ C : Value → Heap → Prop, valVc P qs N L oj ρ h C → valVc P qs N L oj ρ h fun u h' => C u h' ∧ Y (ρ.put oj.dst u) h') :
    ∀ (f : Nat) (listed : Array Bool) (ρ : Env) (h : Heap), W listed → i ∈ Region.ready .any L.toArray listed → Y ρ h →
      anyVc P qs N L K f (listed.setIfInBounds i true) (ρ.put oi.dst v) h → anyVc P qs N L K (f + 1) listed ρ h := by
  intro f
  induction f with
  | zero =>
    intro listed ρ h hw hi hy H
    refine ⟨fun h0 => (by rw [h0] at hi; cases hi), fun j hj => ?_⟩
    by_cases hji : j = i
    · subst hji; exact ⟨oi, hoi, hY _ _ hy _ H⟩
    · have := ready_mono hj hji
      rw [H.1] at this
      cases this
  | succ f ih =>
    intro listed ρ h hw hi hy H
    refine ⟨fun h0 => (by rw [h0] at hi; cases hi), fun j hj => ?_⟩
    by_cases hji : j = i
    · subst hji; exact ⟨oi, hoi, hY _ _ hy _ H⟩
    · obtain ⟨oj, hoj, hv⟩ := H.2 j (ready_mono hj hji)
      refine ⟨oj, hoj, ?_⟩
      obtain ⟨h1, h2, h3⟩ := Oper.apart_spec (hap listed hw j oj hoj hji hj hi)
      rw [valVc_put h1] at hv
      refine valVc_mono (fun u h' hu => ?_) (hstep listed ρ h j oj hw hoj hji hj hi hy _ hv)
      obtain ⟨hu, hy'⟩ := hu
      refine ih (listed.setIfInBounds j true) (ρ.put oj.dst u) h' (hW listed hw j hj hji) (ready_mono hi (Ne.symm hji)) hy' ?_
      rw [Array.setIfInBounds_comm _ _ hji]
      exact any_even hK f _ _ _ h' (put_swap h2) hu
end
end Go.Vc
/- Regions that draw their order: a plan that is in order serves. -/
set_option linter.unusedVariables false
namespace Go.Vc

section
variable {P : Program} {qs : List Nat} {N : Nat} {L : List Oper}

def planVal (P : Program) (qs : List Nat) (N : Nat) (L : List Oper) (K : Env → Heap → Prop) : Plan → Env → Heap → Prop
  | .done, ρ, h => K ρ h
  | .stop, _, _ => True
  | .take i p, ρ, h => ∃ o, getAt L i = some o ∧ valVc P qs N L o ρ h fun v h' => planVal P qs N L K p (ρ.put o.dst v) h'
  | .alt i p q, ρ, h => (∃ o, getAt L i = some o ∧ valVc P qs N L o ρ h fun v h' => planVal P qs N L K p (ρ.put o.dst v) h') ∧ planVal P qs N L K q ρ h

theorem plan_val {K : Env → Heap → Prop} (hK : Even K) : ∀ (p : Plan) (ρ ρ' : Env) (h : Heap), EnvEq ρ ρ' → planVc P qs N L K p ρ h → planVal P qs N L K p ρ' h
  | .done, ρ, ρ', h, he, hp => hK _ _ _ he hp
  | .stop, _, _, _, _, _ => trivial
  | .take i p, ρ, ρ', h, he, hp => by
    unfold planVc at hp
    split at hp
    · rename_i o ho
      exact ⟨o, ho, valVc_mono (fun v h' ⟨ρ1, h1, h2⟩ => plan_val hK p _ _ h' h1 h2) (step_val he hp)⟩
    · exact hp.elim
  | .alt i p q, ρ, ρ', h, he, hp => by
    rw [plan_alt] at hp
    obtain ⟨hp, hq⟩ := hp
    refine ⟨?_, plan_val hK q _ _ h he hq⟩
    split at hp
    · rename_i o ho
      exact ⟨o, ho, valVc_mono (fun v h' ⟨ρ1, h1, h2⟩ => plan_val hK p _ _ h' h1 h2) (step_val he hp)⟩
    · exact hp.elim

theorem count_set {listed : Array Bool} {i : Nat} (h : listed.getD i true = false) : (listed.setIfInBounds i true).toList.count false + 1 = listed.toList.count false := by
  have hlt : i < listed.size := by
    rcases Nat.lt_or_ge i listed.size with h' | h'
    · exact h'
    · simp [Array.getElem?_eq_none h'] at h
  have hv : listed[i] = false := by simpa [Array.getElem?_eq_getElem hlt] using h
  have hv' : listed.toList[i]'(by simpa using hlt) = false := by simpa using hv
  have hpos : 0 < listed.toList.count false := List.count_pos_iff.2 (by rw [← hv']; exact List.getElem_mem _)
  rw [Array.toList_setIfInBounds, List.count_set (by simpa using hlt), hv']
  generalize listed.toList.count false = c at hpos ⊢
  have e1 : ((false == false) = true) := rfl
  have e2 : ¬ ((true == false) = true) := by decide
  rw [if_pos e1, if_neg e2]
  omega

theorem fuel_pos {listed : Array Bool} {i f : Nat} (hi : i ∈ Region.ready .any L.toArray listed) (hf : listed.toList.count false ≤ f) : ∃ f', f = f' + 1 ∧ (listed.setIfInBounds i true).toList.count false ≤ f' := by
  have := count_set (mem_ready.1 hi).1
  exact ⟨f - 1, by omega, by omega⟩

theorem take_any {K : Env → Heap → Prop} (hK : Even K) {i f : Nat} {oi : Oper} {listed : Array Bool} {ρ : Env} {h : Heap} (hoi : getAt L i = some oi) (hi : i ∈ Region.ready .any L.toArray listed) (hm : mayFirst P qs L.toArray listed i = true)
    (hv : valVc P qs N L oi ρ h fun v h' => anyVc P qs N L K f (listed.setIfInBounds i true) (ρ.put oi.dst v) h') : anyVc P qs N L K (f + 1) listed ρ h := by
  unfold mayFirst at hm
  rw [getAt_toArray, hoi] at hm
  simp only [Bool.and_eq_true, Bool.or_eq_true] at hm
  obtain ⟨hfree, hq⟩ := hm
  have hoi' : L.toArray[i]? = some oi := by rw [getAt_toArray]; exact hoi
  have hiun := (mem_ready.1 hi).1
  have notOn : ∀ (listed' : Array Bool) (j : Nat) (oj : Oper), getAt L j = some oj → j ∈ Region.ready .any L.toArray listed' → listed'.getD i true = false → ∀ e ∈ oj.after, Region.binds .any e = true → e.on ≠ i := by
    intro listed' j oj hoj hj hun e he hb heq
    obtain ⟨_, o, ho, hall⟩ := mem_ready.1 hj
    rw [getAt_toArray, hoj] at ho
    cases ho
    have h1 := hall e he hb
    rw [heq] at h1
    rcases Nat.lt_or_ge i listed'.size with h' | h'
    · simp [h'] at h1 hun; rw [h1] at hun; cases hun
    · simp [Array.getElem?_eq_none h'] at h1
  have hap0 : ∀ (listed' : Array Bool), (∀ j, listed'.getD j true = false → listed.getD j true = false) → ∀ j oj, getAt L j = some oj → j ≠ i → j ∈ Region.ready .any L.toArray listed' → i ∈ Region.ready .any L.toArray listed' → oi.apart L.toArray oj = true := by
    intro listed' hW j oj hoj hne hj hi'
    exact Region.free_spec hoi' hfree j oj (by rw [getAt_toArray]; exact hoj) hne (hW j (mem_ready.1 hj).1) (notOn listed' j oj hoj hj (mem_ready.1 hi').1)
  have hWset : ∀ (listed' : Array Bool), (∀ j, listed'.getD j true = false → listed.getD j true = false) → ∀ k, ∀ j, (listed'.setIfInBounds k true).getD j true = false → listed.getD j true = false := by
    intro listed' hW k j hj
    refine hW j ?_
    by_cases hkj : k = j
    · subst hkj
      rcases Nat.lt_or_ge k listed'.size with h' | h'
      · simp [h'] at hj
      · have ht : (listed'.setIfInBounds k true).getD k true = true := by
          rw [Array.getD_eq_getD_getElem?, Array.getElem?_eq_none (by simpa using h')]
          rfl
        rw [ht] at hj
        cases hj
    · rwa [getD_set_ne true hkj] at hj
  by_cases hpure : pureB P oi.op = true
  · obtain ⟨v, h1, h2⟩ := val_pure hpure hv
    refine any_first hK hoi (fun listed' => ∀ j, listed'.getD j true = false → listed.getD j true = false) (fun l hW j _ _ => hWset l hW j) hap0 v
      (fun ρ _ => ∀ (h' : Heap) (C : Value → Heap → Prop), C v h' → valVc P qs N L oi ρ h' C) (fun ρ h hY C hC => hY h C hC)
      (fun l ρ h j oj hW hoj hne hj hi' hY C hC => ?_) f listed ρ h (fun _ hj => hj) hi h2 h1
    obtain ⟨a1, a2, a3⟩ := Oper.apart_spec (hap0 l hW j oj hoj hne hj hi')
    exact valVc_mono (fun u h' hc => ⟨hc, fun h'' C' hC' => by rw [valVc_put a3]; exact hY h'' C' hC'⟩) hC
  · have hq := hq.resolve_left hpure
    obtain ⟨hread, hfr⟩ := hq
    obtain ⟨v, h1, h2⟩ := val_read hread hv
    unfold freeRead at hfr
    simp only [Bool.and_eq_true] at hfr
    obtain ⟨hshut, hquiet⟩ := hfr
    generalize hmdef : waitsNot L.toArray listed i 2 (Array.replicate L.toArray.size false) = m at hshut hquiet
    unfold shutB at hshut
    simp only [Bool.and_eq_true, List.all_eq_true, List.mem_range, Bool.or_eq_true, beq_iff_eq, Bool.not_eq_true'] at hshut hquiet
    obtain ⟨hmi, hshut⟩ := hshut
    -- what may come up while i has not lies in m
    have inM : ∀ (listed' : Array Bool), listed'.getD i true = false → (∀ j, listed'.getD j false = true → listed.getD j false = true ∨ m.getD j false = true) → ∀ j ∈ Region.ready .any L.toArray listed', j ≠ i → m.getD j false = true := by
      intro listed' hun hsub j hj hne
      obtain ⟨_, o, ho, hall⟩ := mem_ready.1 hj
      have hlt : j < L.toArray.size := (Array.getElem?_eq_some_iff.1 ho).1
      rcases hshut j hlt with (h' | h') | h'
      · exact absurd h' hne
      · exact h'
      · exfalso
        rw [ho] at h'
        simp only [Option.map_some, Option.getD_some] at h'
        rw [Bool.eq_false_iff] at h'
        refine h' ?_
        rw [Array.all_eq_true_iff_forall_mem]
        intro e he
        by_cases hb : Region.binds .any e = true
        · have h1 := hall e he hb
          have hne' := notOn listed' j o (by rw [← getAt_toArray]; exact ho) hj hun e he hb
          rcases hsub _ h1 with h2 | h2 <;> simp [hne', h2]
        · simp [hb]
    let W : Array Bool → Prop := fun listed' => (∀ j, listed'.getD j true = false → listed.getD j true = false) ∧ listed'.getD i true = false ∧ (∀ j, listed'.getD j false = true → listed.getD j false = true ∨ m.getD j false = true)
    refine any_first hK hoi W (fun l hW j hj hne => ⟨hWset l hW.1 j, by rw [getD_set_ne true hne]; exact hW.2.1, fun k hk => ?_⟩) (fun l hW => hap0 l hW.1) v
      (fun ρ h => ∀ (h' : Heap) (C : Value → Heap → Prop), Ext h h' → C v h' → valVc P qs N L oi ρ h' C) (fun ρ h hY C hC => hY h C (Ext.refl h) hC)
      (fun l ρ h j oj hW hoj hne hj hi' hY C hC => ?_) f listed ρ h ⟨fun _ hj => hj, hiun, fun _ hj => .inl hj⟩ hi h2 h1
    · by_cases hjk : j = k
      · subst hjk; exact .inr (inM l hW.2.1 hW.2.2 j hj hne)
      · refine hW.2.2 k ?_
        simpa [Array.getElem?_setIfInBounds_ne hjk] using hk
    · obtain ⟨a1, a2, a3⟩ := Oper.apart_spec (hap0 l hW.1 j oj hoj hne hj hi')
      have hmj := inM l hW.2.1 hW.2.2 j hj hne
      have hqj : growB P qs oj.op = true := by
        have hoj' : L.toArray[j]? = some oj := by rw [getAt_toArray]; exact hoj
        have hlt : j < L.toArray.size := (Array.getElem?_eq_some_iff.1 hoj').1
        rcases hquiet j hlt with (h' | h') | h'
        · exfalso
          have hun := hW.1 j (mem_ready.1 hj).1
          rcases Nat.lt_or_ge j listed.size with hl | hl
          · simp [hl] at h' hun; rw [h'] at hun; cases hun
          · simp [Array.getElem?_eq_none hl] at h'
        · rw [hmj] at h'; cases h'
        · rw [hoj'] at h'
          simp only [Option.map_some, Option.getD_some] at h'
          exact h'
      exact valVc_mono (fun u h' hu => ⟨hu.1, fun h'' C' he hC' => by rw [valVc_put a3]; exact hY h'' C' (hu.2.trans he) hC'⟩) (val_grow hqj hC)

theorem plan_any {K : Env → Heap → Prop} (hK : Even K) : ∀ (p : Plan) (listed : Array Bool) (f : Nat) (ρ : Env) (h : Heap), listed.toList.count false ≤ f → planVal P qs N L K p ρ h →
    (planOk P qs L.toArray p listed none = true → anyVc P qs N L K f listed ρ h) ∧
    (∀ r, planOk P qs L.toArray p listed (some r) = true → (∀ j ∈ r, j ∈ Region.ready .any L.toArray listed) → ∀ j ∈ r, ∀ f', f = f' + 1 → ∃ o, getAt L j = some o ∧ valVc P qs N L o ρ h fun v h' => anyVc P qs N L K f' (listed.setIfInBounds j true) (ρ.put o.dst v) h')
  | .done, listed, f, ρ, h, hf, hp => by
    refine ⟨fun ho => ?_, fun r ho => by simp [planOk] at ho⟩
    simp only [planOk, List.isEmpty_iff] at ho
    cases f with
    | zero => exact ⟨ho, hp⟩
    | succ f => exact ⟨fun _ => hp, fun i hi => by rw [ho] at hi; cases hi⟩
  | .stop, listed, f, ρ, h, hf, hp => by
    refine ⟨fun ho => by simp [planOk] at ho, fun r ho _ j hj => ?_⟩
    simp only [planOk, List.isEmpty_iff] at ho
    subst ho; cases hj
  | .take i p, listed, f, ρ, h, hf, hp => by
    refine ⟨fun ho => ?_, fun r ho => by simp [planOk] at ho⟩
    simp only [planOk, Bool.and_eq_true] at ho
    obtain ⟨⟨hi, hm⟩, ho⟩ := ho
    have hi : i ∈ Region.ready .any L.toArray listed := by simpa using hi
    obtain ⟨o, hoi, hv⟩ := hp
    obtain ⟨f', rfl, hf'⟩ := fuel_pos hi hf
    exact take_any hK hoi hi hm (valVc_mono (fun v h' hh => (plan_any hK p _ f' _ h' hf' hh).1 ho) hv)
  | .alt i p q, listed, f, ρ, h, hf, hp => by
    obtain ⟨⟨o, hoi, hv⟩, hq⟩ := hp
    have one : ∀ (hi : i ∈ Region.ready .any L.toArray listed) (ho : planOk P qs L.toArray p (listed.setIfInBounds i true) none = true) (f' : Nat), f = f' + 1 →
        ∃ o, getAt L i = some o ∧ valVc P qs N L o ρ h fun v h' => anyVc P qs N L K f' (listed.setIfInBounds i true) (ρ.put o.dst v) h' := by
      intro hi ho f' hff
      obtain ⟨f'', h1, h2⟩ := fuel_pos hi hf
      have : f'' = f' := by omega
      subst this
      exact ⟨o, hoi, valVc_mono (fun v h' hh => (plan_any hK p _ f'' _ h' h2 hh).1 ho) hv⟩
    refine ⟨fun ho => ?_, fun r ho hr j hj f' hff => ?_⟩
    · simp only [planOk, Bool.and_eq_true] at ho
      obtain ⟨⟨hi, ho1⟩, ho2⟩ := ho
      have hi : i ∈ Region.ready .any L.toArray listed := by simpa using hi
      have hrest := (plan_any hK q listed f ρ h hf hq).2 _ ho2 (fun j hj => List.mem_of_mem_erase hj)
      obtain ⟨f', rfl, _⟩ := fuel_pos hi hf
      refine ⟨fun h0 => (by rw [h0] at hi; cases hi), fun j hj => ?_⟩
      by_cases hji : j = i
      · subst hji; exact one hj ho1 f' rfl
      · exact hrest j ((List.mem_erase_of_ne hji).2 hj) f' rfl
    · simp only [planOk, Bool.and_eq_true] at ho
      by_cases hji : j = i
      · subst hji; exact one (hr j hj) ho.1 f' hff
      · exact (plan_any hK q listed f ρ h hf hq).2 _ ho.2 (fun k hk => hr k (List.mem_of_mem_erase hk)) j ((List.mem_erase_of_ne hji).2 hj) f' hff
end
end Go.Vc
/- The calculus for code and for functions; it is sound. -/
set_option linter.unusedVariables false
namespace Go.Vc

def Ty.den : Ty → Type
  | .int _ => Int
  | .bool => Bool
  | .str => ByteArray
  | .ptr => Option Addr
  | .slice => Option Addr × Nat × Nat
  | .map => Option Nat
  | .agg _ => Array Value
  | .raw => Value
  | .addr => Addr
  | .blk => Nat
def Ty.enc : (T : Ty) → T.den → Value
  | .int k, n => .int k n
  | .bool, b => .bool b
  | .str, s => .string s
  | .ptr, p => .pointer p
  | .slice, p => .slice p.1 p.2.1 p.2.2
  | .map, r => .map r
  | .agg _, cs => .agg cs
  | .raw, v => v
  | .addr, a => .pointer (some a)
  | .blk, b => .pointer (some ⟨b, 0, none⟩)
def blkOf : Option Addr → Option Nat
  | some ⟨b, 0, none⟩ => some b
  | _ => none
theorem blkOf_some {p : Option Addr} {b : Nat} (h : blkOf p = some b) : p = some ⟨b, 0, none⟩ := by
  unfold blkOf at h
  split at h
  · cases h; rfl
  · cases h
def decInt (k : IntKind) : Value → Option (Int)
  | .int k' n => if k = k' then some n else none
  | _ => none
theorem decInt_some {k : IntKind} {v : Value} {b : Int} (h : decInt k v = some b) : v = .int k b := by
  unfold decInt at h
  split at h
  · split at h
    · rename_i hk; subst hk; cases h; rfl
    · cases h
  · cases h
def decBool : Value → Option (Bool)
  | .bool b => some b
  | _ => none
theorem decBool_some {v : Value} {b : Bool} (h : decBool v = some b) : v = .bool b := by
  unfold decBool at h
  split at h
  · cases h; rfl
  · cases h
def decStr : Value → Option (ByteArray)
  | .string s => some s
  | _ => none
theorem decStr_some {v : Value} {b : ByteArray} (h : decStr v = some b) : v = .string b := by
  unfold decStr at h
  split at h
  · cases h; rfl
  · cases h
def decPtr : Value → Option (Option Addr)
  | .pointer p => some p
  | _ => none
theorem decPtr_some {v : Value} {b : Option Addr} (h : decPtr v = some b) : v = .pointer b := by
  unfold decPtr at h
  split at h
  · cases h; rfl
  · cases h
def decSlice : Value → Option (Option Addr × Nat × Nat)
  | .slice p l c => some (p, l, c)
  | _ => none
theorem decSlice_some {v : Value} {b : Option Addr × Nat × Nat} (h : decSlice v = some b) : v = .slice b.1 b.2.1 b.2.2 := by
  unfold decSlice at h
  split at h
  · cases h; rfl
  · cases h
def decMap : Value → Option (Option Nat)
  | .map r => some r
  | _ => none
theorem decMap_some {v : Value} {b : Option Nat} (h : decMap v = some b) : v = .map b := by
  unfold decMap at h
  split at h
  · cases h; rfl
  · cases h
def decAgg : Value → Option (Array Value)
  | .agg cs => some cs
  | _ => none
theorem decAgg_some {v : Value} {b : Array Value} (h : decAgg v = some b) : v = .agg b := by
  unfold decAgg at h
  split at h
  · cases h; rfl
  · cases h
def decAddr : Value → Option (Addr)
  | .pointer p => p
  | _ => none
theorem decAddr_some {v : Value} {b : Addr} (h : decAddr v = some b) : v = .pointer (some b) := by
  unfold decAddr at h
  split at h
  · subst h; rfl
  · cases h
def decBlk : Value → Option (Nat)
  | .pointer p => blkOf p
  | _ => none
theorem decBlk_some {v : Value} {b : Nat} (h : decBlk v = some b) : v = .pointer (some ⟨b, 0, none⟩) := by
  unfold decBlk at h
  split at h
  · have := blkOf_some h; subst this; rfl
  · cases h
def Ty.dec (T : Ty) (v : Value) : Option T.den :=
  match T with
  | .int k => decInt k v
  | .bool => decBool v
  | .str => decStr v
  | .ptr => decPtr v
  | .slice => decSlice v
  | .map => decMap v
  | .agg _ => decAgg v
  | .raw => some v
  | .addr => decAddr v
  | .blk => decBlk v
abbrev Sig := List (Nat × Ty)
def Sig.den : Sig → Type
  | [] => Unit
  | [(_, T)] => T.den
  | (_, T) :: y :: r => T.den × Sig.den (y :: r)
def Sig.enc : (S : Sig) → S.den → Env
  | [], _ => []
  | [(t, T)], x => [(t, T.enc x)]
  | (t, T) :: y :: r, x => (t, T.enc x.1) :: Sig.enc (y :: r) x.2
def Sig.dec : (S : Sig) → Env → Option S.den
  | [], _ => some ()
  | [(t, T)], ρ => match ρ.get? t with | some v => T.dec v | none => none
  | (t, T) :: y :: r, ρ => match ρ.get? t with
    | some v => (match T.dec v, Sig.dec (y :: r) ρ with | some x, some xs => some (x, xs) | _, _ => none)
    | none => none
/-- What is said of a function's code from outside: which calls leave the heap alone, which slots a loop turns, where ways meet, how regions that draw are gone through. -/
structure Ann where
  qs : List Nat := []
  loops : List (Nat × Sig) := []
  cuts : List (Nat × Sig) := []
  plans : List (Nat × Plan) := []
def find {α : Type} : List (Nat × α) → Nat → Option α
  | [], _ => none
  | (i, x) :: r, n => match Nat.beq i n with | true => some x | false => find r n
def first : Code → Nat
  | .region id _ _ => id
  | .seq a _ => first a
  | .block _ c => first c
  | .loop c => first c
  | .scope c => first c
  | _ => 1000000
def written : Code → List Nat
  | .region _ ops _ => ops.toList.filterMap (·.dst)
  | .seq a b => written a ++ written b
  | .cond _ a b => written a ++ written b
  | .block _ c => written c
  | .loop c => written c
  | .scope c => written c
  | _ => []
def keep (W : List Nat) : Env → Env
  | [] => []
  | (s, v) :: r => match inL W s with | true => keep W r | false => (s, v) :: keep W r
def sigIn (W : List Nat) : Sig → Bool
  | [] => true
  | (t, _) :: r => inL W t && sigIn W r
def known (ρ : Env) (x : Operand) (t : Bool) : Env := match x with | .tmp s => (s, .bool t) :: ρ | _ => ρ
def meet (S : Sig) (J : S.den → Heap → Prop) (ρ : Env) (h : Heap) : Prop := match S.dec ρ with | some s => J s h | none => False

def vc (P : Program) (A : Ann) (N : Nat) : Code → Env → Heap → (Exit → Env → Heap → Prop) → Prop
  | .skip, ρ, h, K => K .normal ρ h
  | .label _, ρ, h, K => K .normal ρ h
  | .region id ops d, ρ, h, K => (match d with
    | false => seqVc P A.qs N ops.toList ops.toList ρ h (K .normal)
    | true => match find A.plans id with
      | some p => (match P.follows .mixedOrders && planOk P A.qs ops p (Array.replicate ops.size false) none with
        | true => planVc P A.qs N ops.toList (atEnd ρ ops.toList (K .normal)) p ρ h
        | false => False)
      | none => False)
  | .seq a b, ρ, h, K => (match find A.cuts (first b) with
    | none => vc P A N a ρ h fun x ρ h => (match x with | .normal => vc P A N b ρ h K | x => K x ρ h)
    | some S => (match sigIn (written a) S with
      | true => ∃ J : S.den → Heap → Prop, (vc P A N a ρ h fun x ρ h => (match x with | .normal => meet S J ρ h | x => K x ρ h)) ∧
        ∀ s h, J s h → vc P A N b (S.enc s ++ keep (written a) ρ) h K
      | false => False))
  | .cond c a b, ρ, h, K => withV (opv ρ c) fun v => (match v with
    | .bool t => br t (vc P A N a (known ρ c true) h K) (vc P A N b (known ρ c false) h K)
    | _ => False)
  | .block id c, ρ, h, K => vc P A N c ρ h fun x ρ h => (match x with | .exit i => (match Nat.beq i id with | true => K .normal ρ h | false => K (.exit i) ρ h) | x => K x ρ h)
  | .loop c, ρ, h, K => (match find A.loops (first c) with
    | some S => (match sigIn (written c) S with
      | true => ∃ (I : S.den → Heap → Prop) (μ : S.den → Heap → Nat), meet S I ρ h ∧
        ∀ s h, I s h → vc P A N c (S.enc s ++ keep (written c) ρ) h fun x ρ' h' => (match x with | .normal => meet S (fun s' h' => I s' h' ∧ μ s' h' < μ s h) ρ' h' | x => K x ρ' h')
      | false => False)
    | none => False)
  | .scope c, ρ, h, K => vc P A N c ρ h fun x ρ h => (match x with | .goto _ => False | x => K x ρ h)
  | .exit id, ρ, h, K => K (.exit id) ρ h
  | .ret, ρ, h, K => K .ret ρ h
  | _, _, _, _ => False

def resVc (P : Program) (ρ : Env) (h : Heap) : List ResultVar → (List Value → Prop) → Prop
  | [], K => K []
  | .tmp t :: r, K => withV (ρ.get? t) fun v => resVc P ρ h r fun vs => K (v :: vs)
  | .cell t T :: r, K => withV (ρ.get? t) fun p => (match p with
    | .pointer (some a) => (match aggB P T with
      | some true => ∃ cs, row h a (szOf P T) = some cs ∧ resVc P ρ h r fun vs => K (.agg cs :: vs)
      | some false => exTy (tyOf P T) fun x => cell h a = some x ∧ resVc P ρ h r fun vs => K (x :: vs)
      | none => False)
    | _ => False)
def oneOrMany : List Value → Value
  | [v] => v
  | vs => .tuple vs.toArray
def argEnv : Nat → List Value → Env
  | _, [] => []
  | i, v :: r => (i, v) :: argEnv (i + 1) r
def retK (P : Program) (rs : List ResultVar) (R : Value → Heap → Prop) (x : Exit) (ρ : Env) (h : Heap) : Prop :=
  match x with
  | .normal => resVc P ρ h rs fun vs => R (oneOrMany vs) h
  | .ret => resVc P ρ h rs fun vs => R (oneOrMany vs) h
  | _ => False
def fnVc (P : Program) (A : Ann) (f : FuncId) (args : List Value) (h : Heap) (R : Value → Heap → Prop) : Prop :=
  match P.funcs[f]? with
  | some fn => (match fn.body, Nat.ble args.length fn.ntmps with
    | some c, true => vc P A fn.ntmps c (argEnv 0 args) h (retK P fn.results.toList R)
    | _, _ => False)
  | none => False

section
variable {P : Program} {A : Ann} {N : Nat}

theorem inL_iff {l : List Nat} {n : Nat} : inL l n = true ↔ n ∈ l := by
  induction l with
  | nil => simp [inL]
  | cons x r ih =>
    simp only [inL, Bool.or_eq_true, ih, List.mem_cons]
    constructor
    · rintro (h | h)
      · exact .inl (Nat.eq_of_beq_eq_true h).symm
      · exact .inr h
    · rintro (h | h)
      · subst h; exact .inl (Nat.beq_refl _)
      · exact .inr h

theorem get?_append (ρ ρ' : Env) (t : Nat) : Env.get? (ρ ++ ρ') t = match ρ.get? t with | some v => some v | none => ρ'.get? t := by
  induction ρ with
  | nil => rfl
  | cons x r ih =>
    obtain ⟨s, v⟩ := x
    rw [List.cons_append, get?_cons, get?_cons, ih]
    split <;> rfl

theorem get?_keep {W : List Nat} {t : Nat} (ht : t ∉ W) : ∀ ρ : Env, (keep W ρ).get? t = ρ.get? t
  | [] => rfl
  | (s, v) :: r => by
    simp only [keep]
    split
    · rename_i hs
      have hs := inL_iff.1 hs
      rw [get?_keep ht r, get?_cons, if_neg (fun e => ht (by rw [← e]; exact hs))]
    · rw [get?_cons, get?_cons, get?_keep ht r]

theorem get?_keep_in {W : List Nat} {t : Nat} (ht : t ∈ W) : ∀ ρ : Env, (keep W ρ).get? t = none
  | [] => rfl
  | (s, v) :: r => by
    simp only [keep]
    split
    · exact get?_keep_in ht r
    · rename_i hs
      rw [get?_cons, if_neg (fun h => by subst h; rw [inL_iff.2 ht] at hs; cases hs)]
      exact get?_keep_in ht r

theorem enc_get? : ∀ (S : Sig) (s : S.den) (t : Nat), (∀ T, (t, T) ∉ S) → (S.enc s).get? t = none
  | [], _, _, _ => rfl
  | [(u, T)], s, t, h => by
    simp only [Sig.enc, get?_cons]
    rw [if_neg (fun e => h T (by simp [e]))]; rfl
  | (u, T) :: y :: r, s, t, h => by
    simp only [Sig.enc, get?_cons]
    rw [if_neg (fun e => h T (by simp [e]))]
    exact enc_get? (y :: r) s.2 t (fun T' hT => h T' (by simp at hT ⊢; exact .inr hT))

theorem sigIn_mem {W : List Nat} : ∀ {S : Sig}, sigIn W S = true → ∀ t T, (t, T) ∈ S → t ∈ W
  | [], _, _, _, h => by cases h
  | (u, U) :: r, hs, t, T, h => by
    simp only [sigIn, Bool.and_eq_true] at hs
    rcases List.mem_cons.1 h with h | h
    · cases h; exact inL_iff.1 hs.1
    · exact sigIn_mem hs.2 t T h

theorem dec_enc {T : Ty} {v : Value} {x : T.den} (h : T.dec v = some x) : T.enc x = v := by
  cases T with
  | int k => exact (decInt_some (b := x) h).symm
  | bool => exact (decBool_some (b := x) h).symm
  | str => exact (decStr_some (b := x) h).symm
  | ptr => exact (decPtr_some (b := x) h).symm
  | slice => exact (decSlice_some (b := x) h).symm
  | map => exact (decMap_some (b := x) h).symm
  | agg n => exact (decAgg_some (b := x) h).symm
  | raw => exact (Option.some.inj (h : some v = some x)).symm
  | addr => exact (decAddr_some (b := x) h).symm
  | blk => exact (decBlk_some (b := x) h).symm

/-- The frame at a meeting place. -/
theorem sim_meet {W : List Nat} {a : Act} {ρ ρ' : Env} (hk : ∀ t, t ∉ W → ρ'.get? t = ρ.get? t) (hs : SimN N a ρ') : ∀ {S : Sig} {s : S.den}, S.dec ρ' = some s → SimN N a (S.enc s ++ keep W ρ) := by
  intro S s hd
  refine ⟨hs.1, hs.2.1, fun t v ht => ?_⟩
  rw [get?_append] at ht
  have key : ∀ (S : Sig) (s : S.den), S.dec ρ' = some s → ∀ t v, (S.enc s).get? t = some v → ρ'.get? t = some v := by
    intro S
    induction S with
    | nil => intro s _ t v h; cases h
    | cons x r ih =>
      obtain ⟨u, T⟩ := x
      cases r with
      | nil =>
        intro s hd t v h
        simp only [Sig.enc, get?_cons] at h
        simp only [Sig.dec] at hd
        split at h
        · rename_i hut; subst hut
          split at hd
          · rename_i w hw
            have := dec_enc hd
            rw [this] at h
            rw [hw]; exact h
          · cases hd
        · cases h
      | cons y r =>
        intro s hd t v h
        simp only [Sig.enc, get?_cons] at h
        simp only [Sig.dec] at hd
        split at hd
        · rename_i w hw
          split at hd
          · rename_i x xs hx hxs
            cases hd
            split at h
            · rename_i hut; subst hut
              have := dec_enc hx
              rw [this] at h
              rw [hw]; exact h
            · exact ih xs hxs t v h
          · cases hd
        · cases hd
  split at ht
  · rename_i u hu
    cases ht
    exact hs.2.2 t _ (key S s hd t _ hu)
  · by_cases hW : t ∈ W
    · rw [get?_keep_in hW] at ht; cases ht
    · rw [get?_keep hW, ← hk t hW] at ht
      exact hs.2.2 t v ht

/- ### What code does not write stays -/
def Keeps (W : List Nat) (ρ ρ' : Env) : Prop := ∀ t, t ∉ W → ρ'.get? t = ρ.get? t
theorem Keeps.refl (W : List Nat) (ρ : Env) : Keeps W ρ ρ := fun _ _ => rfl
theorem Keeps.trans {W W' W'' : List Nat} {ρ ρ' ρ'' : Env} (h : Keeps W ρ ρ') (h' : Keeps W' ρ' ρ'') (h1 : W ⊆ W'') (h2 : W' ⊆ W'') : Keeps W'' ρ ρ'' :=
  fun t ht => (h' t (fun h => ht (h2 h))).trans (h t (fun h => ht (h1 h)))
theorem Keeps.mono {W W' : List Nat} {ρ ρ' : Env} (h : Keeps W ρ ρ') (h1 : W ⊆ W') : Keeps W' ρ ρ' := fun t ht => h t (fun h => ht (h1 h))

theorem Keeps.put {W : List Nat} {ρ : Env} {d : Option Nat} {v : Value} (h : ∀ t, d = some t → t ∈ W) : Keeps W ρ (ρ.put d v) :=
  fun t ht => get?_put (fun e => ht (h t e))

theorem step_keeps {qs : List Nat} {L : List Oper} {o : Oper} {ρ : Env} {h : Heap} {K : Env → Heap → Prop} {W : List Nat} (hW : ∀ t, o.dst = some t → t ∈ W) (hs : stepVc P qs N L o ρ h K) :
    stepVc P qs N L o ρ h fun ρ' h' => K ρ' h' ∧ Keeps W ρ ρ' := by
  unfold stepVc at *
  split
  · rename_i hd; simp only [hd] at hs
  · rename_i hd
    simp only [hd] at hs
    split
    · rename_i hg
      simp only [hg] at hs
      exact opVc_mono (fun v h' hk => ⟨hk, Keeps.put hW⟩) hs
    · rename_i j want hg
      simp only [hg] at hs
      split
      · rename_i hj; simp only [hj] at hs
      · rename_i s hj
        simp only [hj] at hs
        split
        · rename_i b hb
          simp only [hb] at hs
          have hsame : Keeps W ρ ((s, .bool b) :: ρ) := fun t _ => by
            rw [get?_cons]; split
            · rename_i hst; subst hst; exact hb.symm
            · rfl
          have go : ∀ t, t = b → goVc P qs o want t ((s, .bool t) :: ρ) h K → goVc P qs o want t ((s, .bool t) :: ρ) h fun ρ' h' => K ρ' h' ∧ Keeps W ρ ρ' := by
            intro t htb hg
            subst htb
            unfold goVc at *
            split
            · rename_i hw; simp only [hw] at hg
              exact opVc_mono (fun v h' hk => ⟨hk, hsame.trans (Keeps.put hW) (fun _ h => h) (fun _ h => h)⟩) hg
            · rename_i hw; simp only [hw] at hg
              exact ⟨hg, hsame.trans (Keeps.put hW) (fun _ h => h) (fun _ h => h)⟩
          cases b
          · exact go false rfl hs
          · exact go true rfl hs
        · rename_i vs hb
          simp only [hb] at hs
          exact ⟨hs, Keeps.put hW⟩
        · rename_i h1 h2
          split at hs
          · rename_i b hb; exact (h1 b hb).elim
          · rename_i vs hb; exact (h2 vs hb).elim
          · exact hs

theorem step_mono {qs : List Nat} {L : List Oper} {o : Oper} {ρ : Env} {h : Heap} {K K' : Env → Heap → Prop} (hk : ∀ ρ h, K ρ h → K' ρ h) (hs : stepVc P qs N L o ρ h K) : stepVc P qs N L o ρ h K' := by
  unfold stepVc at *
  split
  · rename_i hd; simp only [hd] at hs
  · rename_i hd
    simp only [hd] at hs
    split
    · rename_i hg
      simp only [hg] at hs
      exact opVc_mono (fun v h' h => hk _ _ h) hs
    · rename_i j want hg
      simp only [hg] at hs
      split
      · rename_i hj; simp only [hj] at hs
      · rename_i s hj
        simp only [hj] at hs
        split
        · rename_i b hb
          simp only [hb] at hs
          have go : ∀ t, goVc P qs o want t ((s, .bool t) :: ρ) h K → goVc P qs o want t ((s, .bool t) :: ρ) h K' := by
            intro t hg
            unfold goVc at *
            split
            · rename_i hw; simp only [hw] at hg
              exact opVc_mono (fun v h' h => hk _ _ h) hg
            · rename_i hw; simp only [hw] at hg
              exact hk _ _ hg
          exact br_mono (go _) (go _) hs
        · rename_i vs hb
          simp only [hb] at hs
          exact hk _ _ hs
        · rename_i h1 h2
          split at hs
          · rename_i b hb; exact (h1 b hb).elim
          · rename_i vs hb; exact (h2 vs hb).elim
          · exact hs

theorem seq_mono {qs : List Nat} {L : List Oper} {K K' : Env → Heap → Prop} (hk : ∀ ρ h, K ρ h → K' ρ h) : ∀ (l : List Oper) (ρ : Env) (h : Heap), seqVc P qs N L l ρ h K → seqVc P qs N L l ρ h K'
  | [], _, _, h => hk _ _ h
  | o :: r, _, _, h => step_mono (fun ρ h hh => seq_mono hk r ρ h hh) h

theorem seq_keeps {qs : List Nat} {L : List Oper} {K : Env → Heap → Prop} {W : List Nat} : ∀ (l : List Oper) (ρ : Env) (h : Heap), (∀ o ∈ l, ∀ t, o.dst = some t → t ∈ W) → seqVc P qs N L l ρ h K → seqVc P qs N L l ρ h fun ρ' h' => K ρ' h' ∧ Keeps W ρ ρ'
  | [], ρ, _, _, h => ⟨h, Keeps.refl W ρ⟩
  | o :: r, ρ, h, hW, hs => by
    refine step_mono (fun ρ' h' hh => ?_) (step_keeps (W := W) (hW o (by simp)) hs)
    exact seq_mono (fun ρ'' h'' hk => ⟨hk.1, hh.2.trans hk.2 (fun _ h => h) (fun _ h => h)⟩) r ρ' h' (seq_keeps r ρ' h' (fun o ho => hW o (by simp [ho])) hh.1)

theorem plan_mono {qs : List Nat} {L : List Oper} {K K' : Env → Heap → Prop} (hk : ∀ ρ h, K ρ h → K' ρ h) : ∀ (p : Plan) (ρ : Env) (h : Heap), planVc P qs N L K p ρ h → planVc P qs N L K' p ρ h
  | .done, _, _, h => hk _ _ h
  | .stop, _, _, _ => trivial
  | .take i p, ρ, h, hh => by
    unfold planVc at *
    split
    · rename_i o ho; simp only [ho] at hh
      exact step_mono (fun ρ h hh => plan_mono hk p ρ h hh) hh
    · rename_i ho; simp only [ho] at hh
  | .alt i p q, ρ, h, hh => by
    rw [plan_alt] at *
    refine ⟨?_, plan_mono hk q _ _ hh.2⟩
    have hh := hh.1
    split
    · rename_i o ho; simp only [ho] at hh
      exact step_mono (fun ρ h hh => plan_mono hk p ρ h hh) hh
    · rename_i ho; simp only [ho] at hh

theorem canon_keeps {W : List Nat} : ∀ (L : List Oper) (ρ0 ρ ρ' : Env), (∀ o ∈ L, ∀ t, o.dst = some t → t ∈ W) → canon ρ0 L ρ = some ρ' → Keeps W ρ0 ρ'
  | [], ρ0, ρ, ρ', _, h => by simp only [canon, Option.some.injEq] at h; subst h; exact Keeps.refl _ _
  | o :: r, ρ0, ρ, ρ', hW, h => by
    unfold canon at h
    split at h
    · exact canon_keeps r ρ0 ρ ρ' (fun o ho => hW o (by simp [ho])) h
    · rename_i d hd
      split at h
      · rename_i v hv
        exact (Keeps.put (d := some d) (v := v) (fun t ht => hW o (by simp) t (by rw [hd]; exact ht))).trans (canon_keeps r _ ρ ρ' (fun o ho => hW o (by simp [ho])) h) (fun _ h => h) (fun _ h => h)
      · cases h
end
end Go.Vc
/- The calculus is sound for code and for functions. -/
set_option linter.unusedVariables false
namespace Go.Vc

section
variable {P : Program} {A : Ann} {N : Nat}

theorem vc_mono : ∀ (c : Code) {ρ : Env} {h : Heap} {K K' : Exit → Env → Heap → Prop}, (∀ x ρ h, K x ρ h → K' x ρ h) → vc P A N c ρ h K → vc P A N c ρ h K' := by
  intro c
  induction c with
  | skip => intro ρ h K K' hk hv; exact hk _ _ _ hv
  | label l => intro ρ h K K' hk hv; exact hk _ _ _ hv
  | exit id => intro ρ h K K' hk hv; exact hk _ _ _ hv
  | ret => intro ρ h K K' hk hv; exact hk _ _ _ hv
  | region id ops d =>
    intro ρ h K K' hk hv
    simp only [vc] at hv ⊢
    split
    · simp only at hv; exact seq_mono (fun ρ h hh => hk _ _ _ hh) _ _ _ hv
    · simp only at hv
      split at hv
      · split at hv
        · refine plan_mono (fun ρ h hh => ?_) _ _ _ hv
          unfold atEnd at *
          split at hh
          · exact hk _ _ _ hh
          · exact hh
        · exact hv.elim
      · exact hv.elim
  | seq a b iha ihb =>
    intro ρ h K K' hk hv
    simp only [vc] at hv ⊢
    split at hv
    · refine iha (fun x ρ h hh => ?_) hv
      split at hh
      · exact ihb hk hh
      · exact hk _ _ _ hh
    · split at hv
      · obtain ⟨J, h1, h2⟩ := hv
        refine ⟨J, iha (fun x ρ h hh => ?_) h1, fun s h hj => ihb hk (h2 s h hj)⟩
        split at hh
        · exact hh
        · exact hk _ _ _ hh
      · exact hv.elim
  | cond x a b iha ihb =>
    intro ρ h K K' hk hv
    simp only [vc] at hv ⊢
    refine withV_mono (fun v hh => ?_) hv
    split at hh
    · exact br_mono (iha hk) (ihb hk) hh
    · exact hh.elim
  | block id a iha =>
    intro ρ h K K' hk hv
    simp only [vc] at hv ⊢
    refine iha (fun x ρ h hh => ?_) hv
    split at hh
    · split at hh
      · exact hk _ _ _ hh
      · exact hk _ _ _ hh
    · exact hk _ _ _ hh
  | loop a iha =>
    intro ρ h K K' hk hv
    simp only [vc] at hv ⊢
    split at hv
    · split at hv
      · obtain ⟨I, μ, h1, h2⟩ := hv
        refine ⟨I, μ, h1, fun s h hi => iha (fun x ρ h hh => ?_) (h2 s h hi)⟩
        split at hh
        · exact hh
        · exact hk _ _ _ hh
      · exact hv.elim
    · exact hv.elim
  | scope c ih =>
    intro ρ h K K' hk hv
    simp only [vc] at hv ⊢
    refine ih (fun x ρ h hh => ?_) hv
    split at hh
    · exact hh.elim
    · exact hk _ _ _ hh
  | _ => intro ρ h K K' hk hv; exact hv.elim

theorem plan_keeps {qs : List Nat} {L : List Oper} {K : Env → Heap → Prop} {W : List Nat} (hW : ∀ o ∈ L, ∀ t, o.dst = some t → t ∈ W) : ∀ (p : Plan) (ρ : Env) (h : Heap), planVc P qs N L K p ρ h → planVc P qs N L (fun ρ' h' => K ρ' h' ∧ Keeps W ρ ρ') p ρ h
  | .done, ρ, _, h => ⟨h, Keeps.refl W ρ⟩
  | .stop, _, _, _ => trivial
  | .take i p, ρ, h, hh => by
    unfold planVc at *
    split at hh
    · rename_i o ho
      have hmem : o ∈ L := by rw [getAt_eq] at ho; exact List.mem_of_getElem? ho
      refine step_mono (fun ρ' h' hk => ?_) (step_keeps (W := W) (hW o hmem) hh)
      exact plan_mono (fun ρ'' h'' hk' => ⟨hk'.1, hk.2.trans hk'.2 (fun _ h => h) (fun _ h => h)⟩) p ρ' h' (plan_keeps hW p ρ' h' hk.1)
    · exact hh.elim
  | .alt i p q, ρ, h, hh => by
    rw [plan_alt] at *
    obtain ⟨hh, hq⟩ := hh
    refine ⟨?_, plan_keeps hW q ρ h hq⟩
    split at hh
    · rename_i o ho
      have hmem : o ∈ L := by rw [getAt_eq] at ho; exact List.mem_of_getElem? ho
      refine step_mono (fun ρ' h' hk => ?_) (step_keeps (W := W) (hW o hmem) hh)
      exact plan_mono (fun ρ'' h'' hk' => ⟨hk'.1, hk.2.trans hk'.2 (fun _ h => h) (fun _ h => h)⟩) p ρ' h' (plan_keeps hW p ρ' h' hk.1)
    · exact hh.elim

theorem canon_get : ∀ (L : List Oper) (ρ0 ρ ρ1 : Env), canon ρ0 L ρ = some ρ1 → ∀ t, (ρ1.get? t = ρ0.get? t ∧ t ∉ L.filterMap (·.dst)) ∨ ρ1.get? t = ρ.get? t
  | [], ρ0, ρ, ρ1, h, t => by simp only [canon, Option.some.injEq] at h; subst h; exact .inl ⟨rfl, by simp⟩
  | o :: r, ρ0, ρ, ρ1, h, t => by
    unfold canon at h
    split at h
    · rename_i hd
      rcases canon_get r ρ0 ρ ρ1 h t with h' | h'
      · exact .inl ⟨h'.1, by simpa [hd] using h'.2⟩
      · exact .inr h'
    · rename_i d hd
      split at h
      · rename_i v hv
        rcases canon_get r _ ρ ρ1 h t with h' | h'
        · by_cases hdt : d = t
          · subst hdt
            refine .inr ?_
            rw [h'.1, get?_cons, if_pos rfl, hv]
          · refine .inl ⟨?_, ?_⟩
            · rw [h'.1, get?_cons, if_neg hdt]
            · simp only [List.filterMap_cons, hd, List.mem_cons, not_or]
              exact ⟨fun e => hdt e.symm, h'.2⟩
        · exact .inr h'
      · cases h

theorem enc_keeps {W : List Nat} {S : Sig} (hS : sigIn W S = true) (s : S.den) (ρ : Env) : Keeps W ρ (S.enc s ++ keep W ρ) := by
  intro t ht
  rw [get?_append, enc_get? S s t (fun T hT => ht (sigIn_mem hS t T hT)), get?_keep ht]

theorem known_keeps {ρ : Env} {c : Operand} {t : Bool} (hv : opv ρ c = some (.bool t)) (W : List Nat) : Keeps W ρ (known ρ c t) := by
  intro u _
  cases c <;> simp only [known]
  rename_i s
  rw [get?_cons]
  split
  · rename_i hsu; subst hsu; simp only [opv] at hv; exact hv.symm
  · rfl

theorem vc_keeps : ∀ (c : Code) {ρ : Env} {h : Heap} {K : Exit → Env → Heap → Prop}, vc P A N c ρ h K → vc P A N c ρ h fun x ρ' h' => K x ρ' h' ∧ Keeps (written c) ρ ρ' := by
  intro c
  induction c with
  | skip => intro ρ h K hv; exact ⟨hv, Keeps.refl _ _⟩
  | label l => intro ρ h K hv; exact ⟨hv, Keeps.refl _ _⟩
  | exit id => intro ρ h K hv; exact ⟨hv, Keeps.refl _ _⟩
  | ret => intro ρ h K hv; exact ⟨hv, Keeps.refl _ _⟩
  | region id ops d =>
    intro ρ h K hv
    have hW : ∀ o ∈ ops.toList, ∀ t, o.dst = some t → t ∈ written (.region id ops d) := fun o ho t ht => by
      simp only [written, List.mem_filterMap]
      exact ⟨o, ho, ht⟩
    simp only [vc] at hv ⊢
    split
    · simp only at hv; exact seq_keeps _ _ _ hW hv
    · simp only at hv
      split at hv
      · split at hv
        · refine plan_mono (fun ρ' h' hh => ?_) _ _ _ hv
          unfold atEnd at *
          split at hh
          · rename_i ρ1 hc
            exact ⟨hh, canon_keeps _ _ _ _ hW hc⟩
          · exact hh.elim
        · exact hv.elim
      · exact hv.elim
  | seq a b iha ihb =>
    intro ρ h K hv
    simp only [vc] at hv ⊢
    have ha : written a ⊆ written (.seq a b) := List.subset_append_left _ _
    have hb : written b ⊆ written (.seq a b) := List.subset_append_right _ _
    split at hv
    · refine vc_mono a (fun x ρ' h' hh => ?_) (iha hv)
      obtain ⟨hh, hkeep⟩ := hh
      split at hh
      · exact vc_mono b (fun x ρ'' h'' hh => ⟨hh.1, hkeep.trans hh.2 ha hb⟩) (ihb hh)
      · exact ⟨hh, hkeep.mono ha⟩
    · rename_i S _
      split at hv
      · rename_i hS
        obtain ⟨J, h1, h2⟩ := hv
        refine ⟨J, vc_mono a (fun x ρ' h' hh => ?_) (iha h1), fun s h hj => vc_mono b (fun x ρ'' h'' hh => ⟨hh.1, (enc_keeps hS s ρ).trans hh.2 ha hb⟩) (ihb (h2 s h hj))⟩
        obtain ⟨hh, hkeep⟩ := hh
        split at hh
        · exact hh
        · exact ⟨hh, hkeep.mono ha⟩
      · exact hv.elim
  | cond x a b iha ihb =>
    intro ρ h K hv
    simp only [vc] at hv ⊢
    have ha : written a ⊆ written (.cond x a b) := List.subset_append_left _ _
    have hb : written b ⊆ written (.cond x a b) := List.subset_append_right _ _
    obtain ⟨v, hv', hv⟩ := withV_elim hv
    rw [hv']
    simp only [withV] at hv ⊢
    split at hv
    · rename_i t
      cases t
      · exact vc_mono b (fun x ρ'' h'' hh => ⟨hh.1, (known_keeps hv' _).trans hh.2 (fun _ h => h) hb⟩) (ihb hv)
      · exact vc_mono a (fun x ρ'' h'' hh => ⟨hh.1, (known_keeps hv' _).trans hh.2 (fun _ h => h) ha⟩) (iha hv)
    · exact hv.elim
  | block id a iha =>
    intro ρ h K hv
    simp only [vc] at hv ⊢
    refine vc_mono a (fun x ρ h hh => ?_) (iha hv)
    obtain ⟨hh, hkeep⟩ := hh
    split at hh
    · split at hh
      · exact ⟨hh, hkeep⟩
      · exact ⟨hh, hkeep⟩
    · exact ⟨hh, hkeep⟩
  | loop a iha =>
    intro ρ h K hv
    simp only [vc] at hv ⊢
    split at hv
    · rename_i S _
      split at hv
      · rename_i hS
        obtain ⟨I, μ, h1, h2⟩ := hv
        refine ⟨I, μ, h1, fun s h hi => vc_mono a (fun x ρ' h' hh => ?_) (iha (h2 s h hi))⟩
        obtain ⟨hh, hkeep⟩ := hh
        split at hh
        · exact hh
        · exact ⟨hh, (enc_keeps hS s ρ).trans hkeep (fun _ h => h) (fun _ h => h)⟩
      · exact hv.elim
    · exact hv.elim
  | scope c ih =>
    intro ρ h K hv
    simp only [vc] at hv ⊢
    refine vc_mono c (fun x ρ h hh => ?_) (ih hv)
    obtain ⟨hh, hkeep⟩ := hh
    split at hh
    · exact hh.elim
    · exact ⟨hh, hkeep⟩
  | _ => intro ρ h K hv; exact hv.elim

/-- What is asked of frames and worlds. -/
def PostX (N : Nat) (w0 : World) (K : Exit → Env → Heap → Prop) (x : Exit) (a : Act) (w : World) : Prop := ∃ ρ, SimN N a ρ ∧ Rest w0 w ∧ K x ρ w.heap

/-- A loop with a state that stands in no slot. -/
theorem wp_loop_state {σ : Type} {c : Code} {Q : Exit → Act → World → Prop} {a : Act} {w : World} (I : σ → Act → World → Prop) (μ : σ → World → Nat) (s₀ : σ) (h₀ : I s₀ a w)
    (round : ∀ s a w, I s a w → c.wp P (Exit.then (fun a' w' => ∃ s', I s' a' w' ∧ μ s' w' < μ s w) Q) a w) : (Code.loop c).wp P Q a w := by
  intro b k cs
  have key : ∀ n s a w, μ s w = n → I s a w →
      ∃ e a' w', Q e a' w' ∧ Arrives P (lone (b.at a (.code c :: .inLoop c :: k)) cs w) b k cs e a' w' := by
    intro n
    induction n using Nat.strongRecOn with
    | _ n ih =>
      intro s a w hn hI
      obtain ⟨e, a₁, w₁, hq, harr⟩ := round s a w hI b (.inLoop c :: k) cs
      cases e with
      | normal =>
        obtain ⟨s', hI₁, hlt⟩ := hq
        obtain ⟨e₂, a₂, w₂, hq₂, harr₂⟩ := ih (μ s' w₁) (hn ▸ hlt) s' a₁ w₁ rfl hI₁
        exact ⟨e₂, a₂, w₂, hq₂, .of_steps (Steps.trans harr (.one step_inLoop)) harr₂⟩
      | exit id => exact ⟨_, a₁, w₁, hq, .pass (x := .inLoop c) rfl (fun _ _ => .inl (by simp)) harr⟩
      | goto l => exact ⟨_, a₁, w₁, hq, .pass (x := .inLoop c) rfl (fun _ _ => .inl (by simp)) harr⟩
      | ret => exact ⟨_, a₁, w₁, hq, .pass (x := .inLoop c) rfl (fun _ _ => .inl (by simp)) harr⟩
      | panic ch => exact ⟨_, a₁, w₁, hq, .pass (x := .inLoop c) rfl (fun _ _ => .inl (by simp)) harr⟩
      | outgrown => exact ⟨_, a₁, w₁, hq, .pass (x := .inLoop c) rfl (fun _ _ => .inl (by simp)) harr⟩
  obtain ⟨e, a', w', hq, harr⟩ := key _ s₀ a w rfl h₀
  exact ⟨e, a', w', hq, .of_steps (.one step_loop) harr⟩

theorem vc_sound : ∀ (c : Code) {ρ : Env} {K : Exit → Env → Heap → Prop} {a : Act} {w0 w : World} {Q : Exit → Act → World → Prop}, SimN N a ρ → Rest w0 w → vc P A N c ρ w.heap K →
    (∀ x a w, PostX N w0 K x a w → Q x a w) → c.wp P Q a w := by
  intro c
  induction c with
  | skip => intro ρ K a w0 w Q hs hr hv hq; exact wp_skip (hq _ _ _ ⟨ρ, hs, hr, hv⟩)
  | label l => intro ρ K a w0 w Q hs hr hv hq; exact wp_label (hq _ _ _ ⟨ρ, hs, hr, hv⟩)
  | exit id => intro ρ K a w0 w Q hs hr hv hq; exact wp_exit (hq _ _ _ ⟨ρ, hs, hr, hv⟩)
  | ret => intro ρ K a w0 w Q hs hr hv hq; exact wp_ret (hq _ _ _ ⟨ρ, hs, hr, hv⟩)
  | region id ops d =>
    intro ρ K a w0 w Q hs hr hv hq
    simp only [vc] at hv
    split at hv
    · have := seq_sound (Q := Q) (w0 := w0) (fun a w ⟨ρ, h1, h2, h3⟩ => hq _ _ _ ⟨ρ, h1, h2, h3⟩) ops.toList a ρ w hs hr hv
      simp only [Array.toArray_toList] at this
      exact wp_region_list this
    · split at hv
      · rename_i p _
        split at hv
        · rename_i hok
          simp only [Bool.and_eq_true] at hok
          refine wp_region_any hok.1 ?_
          have hW : ∀ o ∈ ops.toList, ∀ t, o.dst = some t → t ∈ ops.toList.filterMap (·.dst) := fun o ho t ht => by
            simp only [List.mem_filterMap]
            exact ⟨o, ho, ht⟩
          have hK : Even fun ρ' h' => atEnd ρ ops.toList (K .normal) ρ' h' ∧ Keeps (ops.toList.filterMap (·.dst)) ρ ρ' :=
            fun ρ1 ρ2 h he hk => ⟨even_atEnd ρ ops.toList (K .normal) _ _ _ he hk.1, fun t ht => (he t).symm.trans (hk.2 t ht)⟩
          have hpv := plan_val hK p ρ ρ w.heap (fun _ => rfl) (plan_keeps hW p ρ w.heap hv)
          have hany := (plan_any hK p (Array.replicate ops.size false) ops.size ρ w.heap (by simp) hpv).1 (by simpa using hok.2)
          have hfin : ∀ a w, Post N w0 (fun ρ' h' => atEnd ρ ops.toList (K .normal) ρ' h' ∧ Keeps (ops.toList.filterMap (·.dst)) ρ ρ') a w → Q .normal a w := by
            rintro a' w' ⟨ρ', h1, h2, h3, hkeep⟩
            unfold atEnd at h3
            split at h3
            · rename_i ρ1 hc
              refine hq _ _ _ ⟨ρ1, ⟨h1.1, h1.2.1, fun t v ht => ?_⟩, h2, h3⟩
              rcases canon_get _ _ _ _ hc t with h' | h'
              · exact h1.2.2 t v (by rw [hkeep t h'.2, ← h'.1]; exact ht)
              · exact h1.2.2 t v (by rw [← h']; exact ht)
            · exact h3.elim
          have := any_sound (Q := Q) (w0 := w0) hfin ops.size (Array.replicate ops.size false) a ρ { w with drawn := w.drawn + 1 } hs ⟨hr.1, hr.2.1, hr.2.2⟩ hany
          simpa using this
        · exact hv.elim
      · exact hv.elim
  | seq x y ihx ihy =>
    intro ρ K a w0 w Q hs hr hv hq
    simp only [vc] at hv
    refine wp_seq ?_
    split at hv
    · refine ihx (w0 := w0) hs hr hv fun e a' w' ⟨ρ', h1, h2, h3⟩ => ?_
      cases e <;> simp only [Exit.then] at h3 ⊢
      · exact ihy h1 h2 h3 hq
      all_goals exact hq _ _ _ ⟨ρ', h1, h2, h3⟩
    · rename_i S _
      split at hv
      · rename_i hS
        obtain ⟨J, hx, hy⟩ := hv
        refine ihx (w0 := w0) hs hr (vc_keeps x hx) fun e a' w' ⟨ρ', h1, h2, h3, hkeep⟩ => ?_
        cases e <;> simp only [Exit.then] at h3 ⊢
        · unfold meet at h3
          split at h3
          · rename_i s hd
            exact ihy (sim_meet hkeep h1 hd) h2 (hy s _ h3) hq
          · exact h3.elim
        all_goals exact hq _ _ _ ⟨ρ', h1, h2, h3⟩
      · exact hv.elim
  | cond x y z ihy ihz =>
    intro ρ K a w0 w Q hs hr hv hq
    simp only [vc] at hv
    obtain ⟨v, hx, hv⟩ := withV_elim hv
    split at hv
    · rename_i t
      have he := hs.2.2.opv hx
      have hsim : SimN N a (known ρ x t) := by
        cases x <;> simp only [known] <;> first | exact hs | exact hs.same hx
      refine wp_cond (t := t) he ?_
      cases t
      · exact ihz hsim hr hv hq
      · exact ihy hsim hr hv hq
    · exact hv.elim
  | block id x ihx =>
    intro ρ K a w0 w Q hs hr hv hq
    simp only [vc] at hv
    refine wp_block (ihx (w0 := w0) hs hr hv fun e a' w' ⟨ρ', h1, h2, h3⟩ => ?_)
    cases e <;> simp only [Exit.inBlock] at h3 ⊢
    case exit i =>
      split at h3
      · rename_i hb
        rw [if_pos (Nat.eq_of_beq_eq_true hb)]
        exact hq _ _ _ ⟨ρ', h1, h2, h3⟩
      · rename_i hb
        rw [if_neg (fun e => by subst e; rw [Nat.beq_refl] at hb; cases hb)]
        exact hq _ _ _ ⟨ρ', h1, h2, h3⟩
    all_goals exact hq _ _ _ ⟨ρ', h1, h2, h3⟩
  | loop x ihx =>
    intro ρ K a w0 w Q hs hr hv hq
    simp only [vc] at hv
    split at hv
    · rename_i S _
      split at hv
      · rename_i hS
        obtain ⟨I, μ, hi, hround⟩ := hv
        unfold meet at hi
        split at hi
        · rename_i s0 hd0
          refine wp_loop_state (σ := S.den) (fun s a w => SimN N a (S.enc s ++ keep (written x) ρ) ∧ Rest w0 w ∧ I s w.heap) (fun s w => μ s w.heap) s0 ⟨sim_meet (fun _ _ => rfl) hs hd0, hr, hi⟩ ?_
          rintro s a1 w1 ⟨hs1, hr1, hi1⟩
          refine ihx (w0 := w0) hs1 hr1 (vc_keeps x (hround s w1.heap hi1)) fun e a' w' ⟨ρ', h1, h2, h3, hkeep⟩ => ?_
          cases e <;> simp only [Exit.then] at h3 ⊢
          · unfold meet at h3
            split at h3
            · rename_i s' hd
              refine ⟨s', ⟨?_, h2, h3.1⟩, h3.2⟩
              exact sim_meet (fun t ht => (hkeep t ht).trans (enc_keeps hS s ρ t ht)) h1 hd
            · exact h3.elim
          all_goals exact hq _ _ _ ⟨ρ', h1, h2, h3⟩
        · exact hi.elim
      · exact hv.elim
    · exact hv.elim
  | scope c ih =>
    intro ρ K a w0 w Q hs hr hv hq
    simp only [vc] at hv
    refine wp_scope_straight (ih (w0 := w0) hs hr hv fun e a' w' ⟨ρ', h1, h2, h3⟩ => ?_)
    cases e <;> simp only [Exit.noGoto] at h3 ⊢
    all_goals exact hq _ _ _ ⟨ρ', h1, h2, h3⟩
  | _ => intro ρ K a w0 w Q hs hr hv hq; exact hv.elim

theorem argEnv_get : ∀ (vs : List Value) (i t : Nat) (v : Value), (argEnv i vs).get? t = some v → i ≤ t ∧ vs[t - i]? = some v
  | [], i, t, v, h => by cases h
  | u :: r, i, t, v, h => by
    simp only [argEnv, get?_cons] at h
    split at h
    · rename_i hit; subst hit
      exact ⟨Nat.le_refl _, by simpa using h⟩
    · obtain ⟨h1, h2⟩ := argEnv_get r (i + 1) t v h
      refine ⟨by omega, ?_⟩
      rw [show t - i = (t - (i + 1)) + 1 from by omega, List.getElem?_cons_succ]
      exact h2

theorem run_asAddr (ad : Addr) (w : World) : (asAddr (.pointer (some ad))).run P w = .ok ad w := rfl

theorem res_sound {a : Act} {ρ : Env} {w : World} (hs : SimN N a ρ) {F : ResultVar → Sem Value} (f1 : ∀ t, F (.tmp t) = pure (a.tmps.getD t undef)) (f2 : ∀ p t, F (.cell p t) = (asAddr (a.tmps.getD p undef) >>= fun x => loadVar t x)) : ∀ (rs : List ResultVar) (K : List Value → Prop), resVc P ρ w.heap rs K →
    ∃ vs, (rs.mapM F : Sem (List Value)).run P w = .ok vs w ∧ vs.length = rs.length ∧ K vs
  | [], K, h => ⟨[], by simp, rfl, h⟩
  | .tmp t :: r, K, h => by
    obtain ⟨v, hv, h⟩ := withV_elim h
    obtain ⟨vs, h1, h2, h3⟩ := res_sound hs f1 f2 r _ h
    refine ⟨v :: vs, ?_, by simp [h2], h3⟩
    rw [List.mapM_cons, f1]
    simp only [Sem.run_bind, Sem.run_pure, Result.andThen_ok, hs.2.2 t v hv, h1]
  | .cell t T :: r, K, h => by
    obtain ⟨v, hv, h⟩ := withV_elim h
    split at h
    · rename_i ad
      split at h
      · rename_i hb
        obtain ⟨cs, hcs, h⟩ := h
        obtain ⟨vs, h1, h2, h3⟩ := res_sound hs f1 f2 r _ h
        refine ⟨.agg cs :: vs, ?_, by simp [h2], h3⟩
        rw [List.mapM_cons, f2]
        simp only [Sem.run_bind, Sem.run_pure, Result.andThen_ok, hs.2.2 t _ hv, run_asAddr, run_loadVar_agg hb hcs, h1]
      · rename_i hb
        obtain ⟨u, hu, h⟩ := exTy_elim h
        obtain ⟨vs, h1, h2, h3⟩ := res_sound hs f1 f2 r _ h
        refine ⟨u :: vs, ?_, by simp [h2], h3⟩
        rw [List.mapM_cons, f2]
        simp only [Sem.run_bind, Sem.run_pure, Result.andThen_ok, hs.2.2 t _ hv, run_asAddr, run_loadVar_one hb hu, h1]
      · exact h.elim
    · exact h.elim

theorem results_sound {fn : Func} {a : Act} {ρ : Env} {w : World} {R : Value → Prop} (hs : SimN N a ρ) (h : resVc P ρ w.heap fn.results.toList fun vs => R (oneOrMany vs)) :
    ∃ v, (results fn a.tmps).run P w = .ok v w ∧ R v := by
  unfold results
  rw [Array.mapM_eq_mapM_toList]
  simp only [Sem.run_bind, Sem.run_map]
  generalize hF : (fun (x : ResultVar) => _ : ResultVar → Sem Value) = F
  obtain ⟨vs, h1, h2, h3⟩ := res_sound hs (F := F) (fun t => by rw [← hF]) (fun p t => by rw [← hF]) _ _ h
  refine ⟨_, ?_, h3⟩
  rw [h1]
  simp only [Result.andThen_ok, Sem.run_pure]
  congr 1
  match vs with
  | [] => rfl
  | [v] => rfl
  | v :: u :: r => simp [oneOrMany]

theorem fn_sound {f : FuncId} {args : List Value} {h : Heap} {R : Value → Heap → Prop} (hv : fnVc P A f args h R) : CallsH P f args.toArray h R := by
  unfold fnVc at hv
  split at hv
  · rename_i fn hf
    split at hv
    · rename_i c hb hle
      have hle := Nat.le_of_ble_eq_true hle
      rintro w rfl
      refine calls_of_wp hf hb ?_
      refine vc_sound (N := fn.ntmps) c (w0 := w) ⟨by simp; omega, rfl, fun t v ht => ?_⟩ (Rest.refl w) hv fun x a w' ⟨ρ, h1, h2, h3⟩ => ?_
      · obtain ⟨_, h2⟩ := argEnv_get args 0 t v ht
        simp only [Nat.sub_zero] at h2
        have hlt : t < args.length := (List.getElem?_eq_some_iff.1 h2).1
        rw [Array.getD_eq_getD_getElem?, Array.getElem?_append_left (by simpa using hlt)]
        simp [h2]
      · cases x <;> simp only [retK] at h3
        · obtain ⟨v, hr, hR⟩ := results_sound (fn := fn) (R := fun v => R v w'.heap) h1 h3
          exact ⟨h1.2.1, v, hr, v, rfl, h2, hR⟩
        · obtain ⟨v, hr, hR⟩ := results_sound (fn := fn) (R := fun v => R v w'.heap) h1 h3
          exact ⟨h1.2.1, v, hr, v, rfl, h2, hR⟩
    · exact hv.elim
  · exact hv.elim
end
end Go.Vc
