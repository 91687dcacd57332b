/- Regions that draw their order: a plan that is in order serves. -/
import Derived.Test.YtkeggnfffnodmaaVcL
set_option linter.unusedVariables false
namespace Go.Vc

section
variable {P : Program} {qs : List Nat} {N : Nat} {L : List Oper}

def planVal (P : Program) (qs : List Nat) (N : Nat) (L : List Oper) (K : Env → Heap → Prop) : Plan → Env → Heap → Prop
  | .done, ρ, h => K ρ h
  | .stop, _, _ => True
  | .take i p, ρ, h => ∃ o, getAt L i = some o ∧ valVc P qs N L o ρ h fun v h' => planVal P qs N L K p (ρ.put o.dst v) h'
  | .alt i p q, ρ, h => (∃ o, getAt L i = some o ∧ valVc P qs N L o ρ h fun v h' => planVal P qs N L K p (ρ.put o.dst v) h') ∧ planVal P qs N L K q ρ h

theorem plan_val {K : Env → Heap → Prop} (hK : Even K) : ∀ (p : Plan) (ρ ρ' : Env) (h : Heap), EnvEq ρ ρ' → planVc P qs N L K p ρ h → planVal P qs N L K p ρ' h
  | .done, ρ, ρ', h, he, hp => hK _ _ _ he hp
  | .stop, _, _, _, _, _ => trivial
  | .take i p, ρ, ρ', h, he, hp => by
    unfold planVc at hp
    split at hp
    · rename_i o ho
      exact ⟨o, ho, valVc_mono (fun v h' ⟨ρ1, h1, h2⟩ => plan_val hK p _ _ h' h1 h2) (step_val he hp)⟩
    · exact hp.elim
  | .alt i p q, ρ, ρ', h, he, hp => by
    rw [plan_alt] at hp
    obtain ⟨hp, hq⟩ := hp
    refine ⟨?_, plan_val hK q _ _ h he hq⟩
    split at hp
    · rename_i o ho
      exact ⟨o, ho, valVc_mono (fun v h' ⟨ρ1, h1, h2⟩ => plan_val hK p _ _ h' h1 h2) (step_val he hp)⟩
    · exact hp.elim

theorem count_set {listed : Array Bool} {i : Nat} (h : listed.getD i true = false) : (listed.setIfInBounds i true).toList.count false + 1 = listed.toList.count false := by
  have hlt : i < listed.size := by
    rcases Nat.lt_or_ge i listed.size with h' | h'
    · exact h'
    · simp [Array.getElem?_eq_none h'] at h
  have hv : listed[i] = false := by simpa [Array.getElem?_eq_getElem hlt] using h
  have hv' : listed.toList[i]'(by simpa using hlt) = false := by simpa using hv
  have hpos : 0 < listed.toList.count false := List.count_pos_iff.2 (by rw [← hv']; exact List.getElem_mem _)
  rw [Array.toList_setIfInBounds, List.count_set (by simpa using hlt), hv']
  generalize listed.toList.count false = c at hpos ⊢
  have e1 : ((false == false) = true) := rfl
  have e2 : ¬ ((true == false) = true) := by decide
  rw [if_pos e1, if_neg e2]
  omega

theorem fuel_pos {listed : Array Bool} {i f : Nat} (hi : i ∈ Region.ready .any L.toArray listed) (hf : listed.toList.count false ≤ f) : ∃ f', f = f' + 1 ∧ (listed.setIfInBounds i true).toList.count false ≤ f' := by
  have := count_set (mem_ready.1 hi).1
  exact ⟨f - 1, by omega, by omega⟩

theorem take_any {K : Env → Heap → Prop} (hK : Even K) {i f : Nat} {oi : Oper} {listed : Array Bool} {ρ : Env} {h : Heap} (hoi : getAt L i = some oi) (hi : i ∈ Region.ready .any L.toArray listed) (hm : mayFirst P qs L.toArray listed i = true)
    (hv : valVc P qs N L oi ρ h fun v h' => anyVc P qs N L K f (listed.setIfInBounds i true) (ρ.put oi.dst v) h') : anyVc P qs N L K (f + 1) listed ρ h := by
  unfold mayFirst at hm
  rw [getAt_toArray, hoi] at hm
  simp only [Bool.and_eq_true, Bool.or_eq_true] at hm
  obtain ⟨hfree, hq⟩ := hm
  have hoi' : L.toArray[i]? = some oi := by rw [getAt_toArray]; exact hoi
  have hiun := (mem_ready.1 hi).1
  have notOn : ∀ (listed' : Array Bool) (j : Nat) (oj : Oper), getAt L j = some oj → j ∈ Region.ready .any L.toArray listed' → listed'.getD i true = false → ∀ e ∈ oj.after, Region.binds .any e = true → e.on ≠ i := by
    intro listed' j oj hoj hj hun e he hb heq
    obtain ⟨_, o, ho, hall⟩ := mem_ready.1 hj
    rw [getAt_toArray, hoj] at ho
    cases ho
    have h1 := hall e he hb
    rw [heq] at h1
    rcases Nat.lt_or_ge i listed'.size with h' | h'
    · simp [h'] at h1 hun; rw [h1] at hun; cases hun
    · simp [Array.getElem?_eq_none h'] at h1
  have hap0 : ∀ (listed' : Array Bool), (∀ j, listed'.getD j true = false → listed.getD j true = false) → ∀ j oj, getAt L j = some oj → j ≠ i → j ∈ Region.ready .any L.toArray listed' → i ∈ Region.ready .any L.toArray listed' → oi.apart L.toArray oj = true := by
    intro listed' hW j oj hoj hne hj hi'
    exact Region.free_spec hoi' hfree j oj (by rw [getAt_toArray]; exact hoj) hne (hW j (mem_ready.1 hj).1) (notOn listed' j oj hoj hj (mem_ready.1 hi').1)
  have hWset : ∀ (listed' : Array Bool), (∀ j, listed'.getD j true = false → listed.getD j true = false) → ∀ k, ∀ j, (listed'.setIfInBounds k true).getD j true = false → listed.getD j true = false := by
    intro listed' hW k j hj
    refine hW j ?_
    by_cases hkj : k = j
    · subst hkj
      rcases Nat.lt_or_ge k listed'.size with h' | h'
      · simp [h'] at hj
      · have ht : (listed'.setIfInBounds k true).getD k true = true := by
          rw [Array.getD_eq_getD_getElem?, Array.getElem?_eq_none (by simpa using h')]
          rfl
        rw [ht] at hj
        cases hj
    · rwa [getD_set_ne true hkj] at hj
  by_cases hpure : pureB P oi.op = true
  · obtain ⟨v, h1, h2⟩ := val_pure hpure hv
    refine any_first hK hoi (fun listed' => ∀ j, listed'.getD j true = false → listed.getD j true = false) (fun l hW j _ _ => hWset l hW j) hap0 v
      (fun ρ _ => ∀ (h' : Heap) (C : Value → Heap → Prop), C v h' → valVc P qs N L oi ρ h' C) (fun ρ h hY C hC => hY h C hC)
      (fun l ρ h j oj hW hoj hne hj hi' hY C hC => ?_) f listed ρ h (fun _ hj => hj) hi h2 h1
    obtain ⟨a1, a2, a3⟩ := Oper.apart_spec (hap0 l hW j oj hoj hne hj hi')
    exact valVc_mono (fun u h' hc => ⟨hc, fun h'' C' hC' => by rw [valVc_put a3]; exact hY h'' C' hC'⟩) hC
  · have hq := hq.resolve_left hpure
    obtain ⟨hread, hfr⟩ := hq
    obtain ⟨v, h1, h2⟩ := val_read hread hv
    unfold freeRead at hfr
    simp only [Bool.and_eq_true] at hfr
    obtain ⟨hshut, hquiet⟩ := hfr
    generalize hmdef : waitsNot L.toArray listed i 2 (Array.replicate L.toArray.size false) = m at hshut hquiet
    unfold shutB at hshut
    simp only [Bool.and_eq_true, List.all_eq_true, List.mem_range, Bool.or_eq_true, beq_iff_eq, Bool.not_eq_true'] at hshut hquiet
    obtain ⟨hmi, hshut⟩ := hshut
    -- what may come up while i has not lies in m
    have inM : ∀ (listed' : Array Bool), listed'.getD i true = false → (∀ j, listed'.getD j false = true → listed.getD j false = true ∨ m.getD j false = true) → ∀ j ∈ Region.ready .any L.toArray listed', j ≠ i → m.getD j false = true := by
      intro listed' hun hsub j hj hne
      obtain ⟨_, o, ho, hall⟩ := mem_ready.1 hj
      have hlt : j < L.toArray.size := (Array.getElem?_eq_some_iff.1 ho).1
      rcases hshut j hlt with (h' | h') | h'
      · exact absurd h' hne
      · exact h'
      · exfalso
        rw [ho] at h'
        simp only [Option.map_some, Option.getD_some] at h'
        rw [Bool.eq_false_iff] at h'
        refine h' ?_
        rw [Array.all_eq_true_iff_forall_mem]
        intro e he
        by_cases hb : Region.binds .any e = true
        · have h1 := hall e he hb
          have hne' := notOn listed' j o (by rw [← getAt_toArray]; exact ho) hj hun e he hb
          rcases hsub _ h1 with h2 | h2 <;> simp [hne', h2]
        · simp [hb]
    let W : Array Bool → Prop := fun listed' => (∀ j, listed'.getD j true = false → listed.getD j true = false) ∧ listed'.getD i true = false ∧ (∀ j, listed'.getD j false = true → listed.getD j false = true ∨ m.getD j false = true)
    refine any_first hK hoi W (fun l hW j hj hne => ⟨hWset l hW.1 j, by rw [getD_set_ne true hne]; exact hW.2.1, fun k hk => ?_⟩) (fun l hW => hap0 l hW.1) v
      (fun ρ h => ∀ (h' : Heap) (C : Value → Heap → Prop), Ext h h' → C v h' → valVc P qs N L oi ρ h' C) (fun ρ h hY C hC => hY h C (Ext.refl h) hC)
      (fun l ρ h j oj hW hoj hne hj hi' hY C hC => ?_) f listed ρ h ⟨fun _ hj => hj, hiun, fun _ hj => .inl hj⟩ hi h2 h1
    · by_cases hjk : j = k
      · subst hjk; exact .inr (inM l hW.2.1 hW.2.2 j hj hne)
      · refine hW.2.2 k ?_
        simpa [Array.getElem?_setIfInBounds_ne hjk] using hk
    · obtain ⟨a1, a2, a3⟩ := Oper.apart_spec (hap0 l hW.1 j oj hoj hne hj hi')
      have hmj := inM l hW.2.1 hW.2.2 j hj hne
      have hqj : growB P qs oj.op = true := by
        have hoj' : L.toArray[j]? = some oj := by rw [getAt_toArray]; exact hoj
        have hlt : j < L.toArray.size := (Array.getElem?_eq_some_iff.1 hoj').1
        rcases hquiet j hlt with (h' | h') | h'
        · exfalso
          have hun := hW.1 j (mem_ready.1 hj).1
          rcases Nat.lt_or_ge j listed.size with hl | hl
          · simp [hl] at h' hun; rw [h'] at hun; cases hun
          · simp [Array.getElem?_eq_none hl] at h'
        · rw [hmj] at h'; cases h'
        · rw [hoj'] at h'
          simp only [Option.map_some, Option.getD_some] at h'
          exact h'
      exact valVc_mono (fun u h' hu => ⟨hu.1, fun h'' C' he hC' => by rw [valVc_put a3]; exact hY h'' C' (hu.2.trans he) hC'⟩) (val_grow hqj hC)

theorem plan_any {K : Env → Heap → Prop} (hK : Even K) : ∀ (p : Plan) (listed : Array Bool) (f : Nat) (ρ : Env) (h : Heap), listed.toList.count false ≤ f → planVal P qs N L K p ρ h →
    (planOk P qs L.toArray p listed none = true → anyVc P qs N L K f listed ρ h) ∧
    (∀ r, planOk P qs L.toArray p listed (some r) = true → (∀ j ∈ r, j ∈ Region.ready .any L.toArray listed) → ∀ j ∈ r, ∀ f', f = f' + 1 → ∃ o, getAt L j = some o ∧ valVc P qs N L o ρ h fun v h' => anyVc P qs N L K f' (listed.setIfInBounds j true) (ρ.put o.dst v) h')
  | .done, listed, f, ρ, h, hf, hp => by
    refine ⟨fun ho => ?_, fun r ho => by simp [planOk] at ho⟩
    simp only [planOk, List.isEmpty_iff] at ho
    cases f with
    | zero => exact ⟨ho, hp⟩
    | succ f => exact ⟨fun _ => hp, fun i hi => by rw [ho] at hi; cases hi⟩
  | .stop, listed, f, ρ, h, hf, hp => by
    refine ⟨fun ho => by simp [planOk] at ho, fun r ho _ j hj => ?_⟩
    simp only [planOk, List.isEmpty_iff] at ho
    subst ho; cases hj
  | .take i p, listed, f, ρ, h, hf, hp => by
    refine ⟨fun ho => ?_, fun r ho => by simp [planOk] at ho⟩
    simp only [planOk, Bool.and_eq_true] at ho
    obtain ⟨⟨hi, hm⟩, ho⟩ := ho
    have hi : i ∈ Region.ready .any L.toArray listed := by simpa using hi
    obtain ⟨o, hoi, hv⟩ := hp
    obtain ⟨f', rfl, hf'⟩ := fuel_pos hi hf
    exact take_any hK hoi hi hm (valVc_mono (fun v h' hh => (plan_any hK p _ f' _ h' hf' hh).1 ho) hv)
  | .alt i p q, listed, f, ρ, h, hf, hp => by
    obtain ⟨⟨o, hoi, hv⟩, hq⟩ := hp
    have one : ∀ (hi : i ∈ Region.ready .any L.toArray listed) (ho : planOk P qs L.toArray p (listed.setIfInBounds i true) none = true) (f' : Nat), f = f' + 1 →
        ∃ o, getAt L i = some o ∧ valVc P qs N L o ρ h fun v h' => anyVc P qs N L K f' (listed.setIfInBounds i true) (ρ.put o.dst v) h' := by
      intro hi ho f' hff
      obtain ⟨f'', h1, h2⟩ := fuel_pos hi hf
      have : f'' = f' := by omega
      subst this
      exact ⟨o, hoi, valVc_mono (fun v h' hh => (plan_any hK p _ f'' _ h' h2 hh).1 ho) hv⟩
    refine ⟨fun ho => ?_, fun r ho hr j hj f' hff => ?_⟩
    · simp only [planOk, Bool.and_eq_true] at ho
      obtain ⟨⟨hi, ho1⟩, ho2⟩ := ho
      have hi : i ∈ Region.ready .any L.toArray listed := by simpa using hi
      have hrest := (plan_any hK q listed f ρ h hf hq).2 _ ho2 (fun j hj => List.mem_of_mem_erase hj)
      obtain ⟨f', rfl, _⟩ := fuel_pos hi hf
      refine ⟨fun h0 => (by rw [h0] at hi; cases hi), fun j hj => ?_⟩
      by_cases hji : j = i
      · subst hji; exact one hj ho1 f' rfl
      · exact hrest j ((List.mem_erase_of_ne hji).2 hj) f' rfl
    · simp only [planOk, Bool.and_eq_true] at ho
      by_cases hji : j = i
      · subst hji; exact one (hr j hj) ho.1 f' hff
      · exact (plan_any hK q listed f ρ h hf hq).2 _ ho.2 (fun k hk => hr k (List.mem_of_mem_erase hk)) j ((List.mem_erase_of_ne hji).2 hj) f' hff
end
end Go.Vc
