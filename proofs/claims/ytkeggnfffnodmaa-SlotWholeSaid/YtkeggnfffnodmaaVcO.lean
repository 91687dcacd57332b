/- The calculus is sound for code and for functions. -/
import Derived.Test.YtkeggnfffnodmaaVcN
import Derived.Deep.LoopGhost
set_option linter.unusedVariables false
namespace Go.Vc

section
variable {P : Program} {A : Ann} {N : Nat}

theorem vc_mono : ∀ (c : Code) {ρ : Env} {h : Heap} {K K' : Exit → Env → Heap → Prop}, (∀ x ρ h, K x ρ h → K' x ρ h) → vc P A N c ρ h K → vc P A N c ρ h K' := by
  intro c
  induction c with
  | skip => intro ρ h K K' hk hv; exact hk _ _ _ hv
  | label l => intro ρ h K K' hk hv; exact hk _ _ _ hv
  | exit id => intro ρ h K K' hk hv; exact hk _ _ _ hv
  | ret => intro ρ h K K' hk hv; exact hk _ _ _ hv
  | region id ops d =>
    intro ρ h K K' hk hv
    simp only [vc] at hv ⊢
    split
    · simp only at hv; exact seq_mono (fun ρ h hh => hk _ _ _ hh) _ _ _ hv
    · simp only at hv
      split at hv
      · split at hv
        · refine plan_mono (fun ρ h hh => ?_) _ _ _ hv
          unfold atEnd at *
          split at hh
          · exact hk _ _ _ hh
          · exact hh
        · exact hv.elim
      · exact hv.elim
  | seq a b iha ihb =>
    intro ρ h K K' hk hv
    simp only [vc] at hv ⊢
    split at hv
    · refine iha (fun x ρ h hh => ?_) hv
      split at hh
      · exact ihb hk hh
      · exact hk _ _ _ hh
    · split at hv
      · obtain ⟨J, h1, h2⟩ := hv
        refine ⟨J, iha (fun x ρ h hh => ?_) h1, fun s h hj => ihb hk (h2 s h hj)⟩
        split at hh
        · exact hh
        · exact hk _ _ _ hh
      · exact hv.elim
  | cond x a b iha ihb =>
    intro ρ h K K' hk hv
    simp only [vc] at hv ⊢
    refine withV_mono (fun v hh => ?_) hv
    split at hh
    · exact br_mono (iha hk) (ihb hk) hh
    · exact hh.elim
  | block id a iha =>
    intro ρ h K K' hk hv
    simp only [vc] at hv ⊢
    refine iha (fun x ρ h hh => ?_) hv
    split at hh
    · split at hh
      · exact hk _ _ _ hh
      · exact hk _ _ _ hh
    · exact hk _ _ _ hh
  | loop a iha =>
    intro ρ h K K' hk hv
    simp only [vc] at hv ⊢
    split at hv
    · split at hv
      · obtain ⟨I, μ, h1, h2⟩ := hv
        refine ⟨I, μ, h1, fun s h hi => iha (fun x ρ h hh => ?_) (h2 s h hi)⟩
        split at hh
        · exact hh
        · exact hk _ _ _ hh
      · exact hv.elim
    · exact hv.elim
  | _ => intro ρ h K K' hk hv; exact hv.elim

theorem plan_keeps {qs : List Nat} {L : List Oper} {K : Env → Heap → Prop} {W : List Nat} (hW : ∀ o ∈ L, ∀ t, o.dst = some t → t ∈ W) : ∀ (p : Plan) (ρ : Env) (h : Heap), planVc P qs N L K p ρ h → planVc P qs N L (fun ρ' h' => K ρ' h' ∧ Keeps W ρ ρ') p ρ h
  | .done, ρ, _, h => ⟨h, Keeps.refl W ρ⟩
  | .stop, _, _, _ => trivial
  | .take i p, ρ, h, hh => by
    unfold planVc at *
    split at hh
    · rename_i o ho
      have hmem : o ∈ L := by rw [getAt_eq] at ho; exact List.mem_of_getElem? ho
      refine step_mono (fun ρ' h' hk => ?_) (step_keeps (W := W) (hW o hmem) hh)
      exact plan_mono (fun ρ'' h'' hk' => ⟨hk'.1, hk.2.trans hk'.2 (fun _ h => h) (fun _ h => h)⟩) p ρ' h' (plan_keeps hW p ρ' h' hk.1)
    · exact hh.elim
  | .alt i p q, ρ, h, hh => by
    rw [plan_alt] at *
    obtain ⟨hh, hq⟩ := hh
    refine ⟨?_, plan_keeps hW q ρ h hq⟩
    split at hh
    · rename_i o ho
      have hmem : o ∈ L := by rw [getAt_eq] at ho; exact List.mem_of_getElem? ho
      refine step_mono (fun ρ' h' hk => ?_) (step_keeps (W := W) (hW o hmem) hh)
      exact plan_mono (fun ρ'' h'' hk' => ⟨hk'.1, hk.2.trans hk'.2 (fun _ h => h) (fun _ h => h)⟩) p ρ' h' (plan_keeps hW p ρ' h' hk.1)
    · exact hh.elim

theorem canon_get : ∀ (L : List Oper) (ρ0 ρ ρ1 : Env), canon ρ0 L ρ = some ρ1 → ∀ t, (ρ1.get? t = ρ0.get? t ∧ t ∉ L.filterMap (·.dst)) ∨ ρ1.get? t = ρ.get? t
  | [], ρ0, ρ, ρ1, h, t => by simp only [canon, Option.some.injEq] at h; subst h; exact .inl ⟨rfl, by simp⟩
  | o :: r, ρ0, ρ, ρ1, h, t => by
    unfold canon at h
    split at h
    · rename_i hd
      rcases canon_get r ρ0 ρ ρ1 h t with h' | h'
      · exact .inl ⟨h'.1, by simpa [hd] using h'.2⟩
      · exact .inr h'
    · rename_i d hd
      split at h
      · rename_i v hv
        rcases canon_get r _ ρ ρ1 h t with h' | h'
        · by_cases hdt : d = t
          · subst hdt
            refine .inr ?_
            rw [h'.1, get?_cons, if_pos rfl, hv]
          · refine .inl ⟨?_, ?_⟩
            · rw [h'.1, get?_cons, if_neg hdt]
            · simp only [List.filterMap_cons, hd, List.mem_cons, not_or]
              exact ⟨fun e => hdt e.symm, h'.2⟩
        · exact .inr h'
      · cases h

theorem enc_keeps {W : List Nat} {S : Sig} (hS : sigIn W S = true) (s : S.den) (ρ : Env) : Keeps W ρ (S.enc s ++ keep W ρ) := by
  intro t ht
  rw [get?_append, enc_get? S s t (fun T hT => ht (sigIn_mem hS t T hT)), get?_keep ht]

theorem known_keeps {ρ : Env} {c : Operand} {t : Bool} (hv : opv ρ c = some (.bool t)) (W : List Nat) : Keeps W ρ (known ρ c t) := by
  intro u _
  cases c <;> simp only [known]
  rename_i s
  rw [get?_cons]
  split
  · rename_i hsu; subst hsu; simp only [opv] at hv; exact hv.symm
  · rfl

theorem vc_keeps : ∀ (c : Code) {ρ : Env} {h : Heap} {K : Exit → Env → Heap → Prop}, vc P A N c ρ h K → vc P A N c ρ h fun x ρ' h' => K x ρ' h' ∧ Keeps (written c) ρ ρ' := by
  intro c
  induction c with
  | skip => intro ρ h K hv; exact ⟨hv, Keeps.refl _ _⟩
  | label l => intro ρ h K hv; exact ⟨hv, Keeps.refl _ _⟩
  | exit id => intro ρ h K hv; exact ⟨hv, Keeps.refl _ _⟩
  | ret => intro ρ h K hv; exact ⟨hv, Keeps.refl _ _⟩
  | region id ops d =>
    intro ρ h K hv
    have hW : ∀ o ∈ ops.toList, ∀ t, o.dst = some t → t ∈ written (.region id ops d) := fun o ho t ht => by
      simp only [written, List.mem_filterMap]
      exact ⟨o, ho, ht⟩
    simp only [vc] at hv ⊢
    split
    · simp only at hv; exact seq_keeps _ _ _ hW hv
    · simp only at hv
      split at hv
      · split at hv
        · refine plan_mono (fun ρ' h' hh => ?_) _ _ _ hv
          unfold atEnd at *
          split at hh
          · rename_i ρ1 hc
            exact ⟨hh, canon_keeps _ _ _ _ hW hc⟩
          · exact hh.elim
        · exact hv.elim
      · exact hv.elim
  | seq a b iha ihb =>
    intro ρ h K hv
    simp only [vc] at hv ⊢
    have ha : written a ⊆ written (.seq a b) := List.subset_append_left _ _
    have hb : written b ⊆ written (.seq a b) := List.subset_append_right _ _
    split at hv
    · refine vc_mono a (fun x ρ' h' hh => ?_) (iha hv)
      obtain ⟨hh, hkeep⟩ := hh
      split at hh
      · exact vc_mono b (fun x ρ'' h'' hh => ⟨hh.1, hkeep.trans hh.2 ha hb⟩) (ihb hh)
      · exact ⟨hh, hkeep.mono ha⟩
    · rename_i S _
      split at hv
      · rename_i hS
        obtain ⟨J, h1, h2⟩ := hv
        refine ⟨J, vc_mono a (fun x ρ' h' hh => ?_) (iha h1), fun s h hj => vc_mono b (fun x ρ'' h'' hh => ⟨hh.1, (enc_keeps hS s ρ).trans hh.2 ha hb⟩) (ihb (h2 s h hj))⟩
        obtain ⟨hh, hkeep⟩ := hh
        split at hh
        · exact hh
        · exact ⟨hh, hkeep.mono ha⟩
      · exact hv.elim
  | cond x a b iha ihb =>
    intro ρ h K hv
    simp only [vc] at hv ⊢
    have ha : written a ⊆ written (.cond x a b) := List.subset_append_left _ _
    have hb : written b ⊆ written (.cond x a b) := List.subset_append_right _ _
    obtain ⟨v, hv', hv⟩ := withV_elim hv
    rw [hv']
    simp only [withV] at hv ⊢
    split at hv
    · rename_i t
      cases t
      · exact vc_mono b (fun x ρ'' h'' hh => ⟨hh.1, (known_keeps hv' _).trans hh.2 (fun _ h => h) hb⟩) (ihb hv)
      · exact vc_mono a (fun x ρ'' h'' hh => ⟨hh.1, (known_keeps hv' _).trans hh.2 (fun _ h => h) ha⟩) (iha hv)
    · exact hv.elim
  | block id a iha =>
    intro ρ h K hv
    simp only [vc] at hv ⊢
    refine vc_mono a (fun x ρ h hh => ?_) (iha hv)
    obtain ⟨hh, hkeep⟩ := hh
    split at hh
    · split at hh
      · exact ⟨hh, hkeep⟩
      · exact ⟨hh, hkeep⟩
    · exact ⟨hh, hkeep⟩
  | loop a iha =>
    intro ρ h K hv
    simp only [vc] at hv ⊢
    split at hv
    · rename_i S _
      split at hv
      · rename_i hS
        obtain ⟨I, μ, h1, h2⟩ := hv
        refine ⟨I, μ, h1, fun s h hi => vc_mono a (fun x ρ' h' hh => ?_) (iha (h2 s h hi))⟩
        obtain ⟨hh, hkeep⟩ := hh
        split at hh
        · exact hh
        · exact ⟨hh, (enc_keeps hS s ρ).trans hkeep (fun _ h => h) (fun _ h => h)⟩
      · exact hv.elim
    · exact hv.elim
  | _ => intro ρ h K hv; exact hv.elim

/-- What is asked of frames and worlds. -/
def PostX (N : Nat) (w0 : World) (K : Exit → Env → Heap → Prop) (x : Exit) (a : Act) (w : World) : Prop := ∃ ρ, SimN N a ρ ∧ Rest w0 w ∧ K x ρ w.heap

/-- A loop with a state that stands in no slot. -/
theorem wp_loop_state {σ : Type} {c : Code} {Q : Exit → Act → World → Prop} {a : Act} {w : World} (I : σ → Act → World → Prop) (μ : σ → World → Nat) (s₀ : σ) (h₀ : I s₀ a w)
    (round : ∀ s a w, I s a w → c.wp P (Exit.then (fun a' w' => ∃ s', I s' a' w' ∧ μ s' w' < μ s w) Q) a w) : (Code.loop c).wp P Q a w := by
  intro b k cs
  have key : ∀ n s a w, μ s w = n → I s a w →
      ∃ e a' w', Q e a' w' ∧ Arrives P (lone (b.at a (.code c :: .inLoop c :: k)) cs w) b k cs e a' w' := by
    intro n
    induction n using Nat.strongRecOn with
    | _ n ih =>
      intro s a w hn hI
      obtain ⟨e, a₁, w₁, hq, harr⟩ := round s a w hI b (.inLoop c :: k) cs
      cases e with
      | normal =>
        obtain ⟨s', hI₁, hlt⟩ := hq
        obtain ⟨e₂, a₂, w₂, hq₂, harr₂⟩ := ih (μ s' w₁) (hn ▸ hlt) s' a₁ w₁ rfl hI₁
        exact ⟨e₂, a₂, w₂, hq₂, .of_steps (Steps.trans harr (.one step_inLoop)) harr₂⟩
      | exit id => exact ⟨_, a₁, w₁, hq, .pass (x := .inLoop c) rfl (fun _ _ => .inl (by simp)) harr⟩
      | goto l => exact ⟨_, a₁, w₁, hq, .pass (x := .inLoop c) rfl (fun _ _ => .inl (by simp)) harr⟩
      | ret => exact ⟨_, a₁, w₁, hq, .pass (x := .inLoop c) rfl (fun _ _ => .inl (by simp)) harr⟩
      | panic ch => exact ⟨_, a₁, w₁, hq, .pass (x := .inLoop c) rfl (fun _ _ => .inl (by simp)) harr⟩
      | outgrown => exact ⟨_, a₁, w₁, hq, .pass (x := .inLoop c) rfl (fun _ _ => .inl (by simp)) harr⟩
  obtain ⟨e, a', w', hq, harr⟩ := key _ s₀ a w rfl h₀
  exact ⟨e, a', w', hq, .of_steps (.one step_loop) harr⟩

theorem vc_sound : ∀ (c : Code) {ρ : Env} {K : Exit → Env → Heap → Prop} {a : Act} {w0 w : World} {Q : Exit → Act → World → Prop}, SimN N a ρ → Rest w0 w → vc P A N c ρ w.heap K →
    (∀ x a w, PostX N w0 K x a w → Q x a w) → c.wp P Q a w := by
  intro c
  induction c with
  | skip => intro ρ K a w0 w Q hs hr hv hq; exact wp_skip (hq _ _ _ ⟨ρ, hs, hr, hv⟩)
  | label l => intro ρ K a w0 w Q hs hr hv hq; exact wp_label (hq _ _ _ ⟨ρ, hs, hr, hv⟩)
  | exit id => intro ρ K a w0 w Q hs hr hv hq; exact wp_exit (hq _ _ _ ⟨ρ, hs, hr, hv⟩)
  | ret => intro ρ K a w0 w Q hs hr hv hq; exact wp_ret (hq _ _ _ ⟨ρ, hs, hr, hv⟩)
  | region id ops d =>
    intro ρ K a w0 w Q hs hr hv hq
    simp only [vc] at hv
    split at hv
    · have := seq_sound (Q := Q) (w0 := w0) (fun a w ⟨ρ, h1, h2, h3⟩ => hq _ _ _ ⟨ρ, h1, h2, h3⟩) ops.toList a ρ w hs hr hv
      simp only [Array.toArray_toList] at this
      exact wp_region_list this
    · split at hv
      · rename_i p _
        split at hv
        · rename_i hok
          simp only [Bool.and_eq_true] at hok
          refine wp_region_any hok.1 ?_
          have hW : ∀ o ∈ ops.toList, ∀ t, o.dst = some t → t ∈ ops.toList.filterMap (·.dst) := fun o ho t ht => by
            simp only [List.mem_filterMap]
            exact ⟨o, ho, ht⟩
          have hK : Even fun ρ' h' => atEnd ρ ops.toList (K .normal) ρ' h' ∧ Keeps (ops.toList.filterMap (·.dst)) ρ ρ' :=
            fun ρ1 ρ2 h he hk => ⟨even_atEnd ρ ops.toList (K .normal) _ _ _ he hk.1, fun t ht => (he t).symm.trans (hk.2 t ht)⟩
          have hpv := plan_val hK p ρ ρ w.heap (fun _ => rfl) (plan_keeps hW p ρ w.heap hv)
          have hany := (plan_any hK p (Array.replicate ops.size false) ops.size ρ w.heap (by simp) hpv).1 (by simpa using hok.2)
          have hfin : ∀ a w, Post N w0 (fun ρ' h' => atEnd ρ ops.toList (K .normal) ρ' h' ∧ Keeps (ops.toList.filterMap (·.dst)) ρ ρ') a w → Q .normal a w := by
            rintro a' w' ⟨ρ', h1, h2, h3, hkeep⟩
            unfold atEnd at h3
            split at h3
            · rename_i ρ1 hc
              refine hq _ _ _ ⟨ρ1, ⟨h1.1, h1.2.1, fun t v ht => ?_⟩, h2, h3⟩
              rcases canon_get _ _ _ _ hc t with h' | h'
              · exact h1.2.2 t v (by rw [hkeep t h'.2, ← h'.1]; exact ht)
              · exact h1.2.2 t v (by rw [← h']; exact ht)
            · exact h3.elim
          have := any_sound (Q := Q) (w0 := w0) hfin ops.size (Array.replicate ops.size false) a ρ { w with drawn := w.drawn + 1 } hs ⟨hr.1, hr.2.1, hr.2.2⟩ hany
          simpa using this
        · exact hv.elim
      · exact hv.elim
  | seq x y ihx ihy =>
    intro ρ K a w0 w Q hs hr hv hq
    simp only [vc] at hv
    refine wp_seq ?_
    split at hv
    · refine ihx (w0 := w0) hs hr hv fun e a' w' ⟨ρ', h1, h2, h3⟩ => ?_
      cases e <;> simp only [Exit.then] at h3 ⊢
      · exact ihy h1 h2 h3 hq
      all_goals exact hq _ _ _ ⟨ρ', h1, h2, h3⟩
    · rename_i S _
      split at hv
      · rename_i hS
        obtain ⟨J, hx, hy⟩ := hv
        refine ihx (w0 := w0) hs hr (vc_keeps x hx) fun e a' w' ⟨ρ', h1, h2, h3, hkeep⟩ => ?_
        cases e <;> simp only [Exit.then] at h3 ⊢
        · unfold meet at h3
          split at h3
          · rename_i s hd
            exact ihy (sim_meet hkeep h1 hd) h2 (hy s _ h3) hq
          · exact h3.elim
        all_goals exact hq _ _ _ ⟨ρ', h1, h2, h3⟩
      · exact hv.elim
  | cond x y z ihy ihz =>
    intro ρ K a w0 w Q hs hr hv hq
    simp only [vc] at hv
    obtain ⟨v, hx, hv⟩ := withV_elim hv
    split at hv
    · rename_i t
      have he := hs.2.2.opv hx
      have hsim : SimN N a (known ρ x t) := by
        cases x <;> simp only [known] <;> first | exact hs | exact hs.same hx
      refine wp_cond (t := t) he ?_
      cases t
      · exact ihz hsim hr hv hq
      · exact ihy hsim hr hv hq
    · exact hv.elim
  | block id x ihx =>
    intro ρ K a w0 w Q hs hr hv hq
    simp only [vc] at hv
    refine wp_block (ihx (w0 := w0) hs hr hv fun e a' w' ⟨ρ', h1, h2, h3⟩ => ?_)
    cases e <;> simp only [Exit.inBlock] at h3 ⊢
    case exit i =>
      split at h3
      · rename_i hb
        rw [if_pos (Nat.eq_of_beq_eq_true hb)]
        exact hq _ _ _ ⟨ρ', h1, h2, h3⟩
      · rename_i hb
        rw [if_neg (fun e => by subst e; rw [Nat.beq_refl] at hb; cases hb)]
        exact hq _ _ _ ⟨ρ', h1, h2, h3⟩
    all_goals exact hq _ _ _ ⟨ρ', h1, h2, h3⟩
  | loop x ihx =>
    intro ρ K a w0 w Q hs hr hv hq
    simp only [vc] at hv
    split at hv
    · rename_i S _
      split at hv
      · rename_i hS
        obtain ⟨I, μ, hi, hround⟩ := hv
        unfold meet at hi
        split at hi
        · rename_i s0 hd0
          refine wp_loop_state (σ := S.den) (fun s a w => SimN N a (S.enc s ++ keep (written x) ρ) ∧ Rest w0 w ∧ I s w.heap) (fun s w => μ s w.heap) s0 ⟨sim_meet (fun _ _ => rfl) hs hd0, hr, hi⟩ ?_
          rintro s a1 w1 ⟨hs1, hr1, hi1⟩
          refine ihx (w0 := w0) hs1 hr1 (vc_keeps x (hround s w1.heap hi1)) fun e a' w' ⟨ρ', h1, h2, h3, hkeep⟩ => ?_
          cases e <;> simp only [Exit.then] at h3 ⊢
          · unfold meet at h3
            split at h3
            · rename_i s' hd
              refine ⟨s', ⟨?_, h2, h3.1⟩, h3.2⟩
              exact sim_meet (fun t ht => (hkeep t ht).trans (enc_keeps hS s ρ t ht)) h1 hd
            · exact h3.elim
          all_goals exact hq _ _ _ ⟨ρ', h1, h2, h3⟩
        · exact hi.elim
      · exact hv.elim
    · exact hv.elim
  | _ => intro ρ K a w0 w Q hs hr hv hq; exact hv.elim

theorem argEnv_get : ∀ (vs : List Value) (i t : Nat) (v : Value), (argEnv i vs).get? t = some v → i ≤ t ∧ vs[t - i]? = some v
  | [], i, t, v, h => by cases h
  | u :: r, i, t, v, h => by
    simp only [argEnv, get?_cons] at h
    split at h
    · rename_i hit; subst hit
      exact ⟨Nat.le_refl _, by simpa using h⟩
    · obtain ⟨h1, h2⟩ := argEnv_get r (i + 1) t v h
      refine ⟨by omega, ?_⟩
      rw [show t - i = (t - (i + 1)) + 1 from by omega, List.getElem?_cons_succ]
      exact h2

theorem run_asAddr (ad : Addr) (w : World) : (asAddr (.pointer (some ad))).run P w = .ok ad w := rfl

theorem res_sound {a : Act} {ρ : Env} {w : World} (hs : SimN N a ρ) {F : ResultVar → Sem Value} (f1 : ∀ t, F (.tmp t) = pure (a.tmps.getD t undef)) (f2 : ∀ p t, F (.cell p t) = (asAddr (a.tmps.getD p undef) >>= fun x => loadVar t x)) : ∀ (rs : List ResultVar) (K : List Value → Prop), resVc P ρ w.heap rs K →
    ∃ vs, (rs.mapM F : Sem (List Value)).run P w = .ok vs w ∧ vs.length = rs.length ∧ K vs
  | [], K, h => ⟨[], by simp, rfl, h⟩
  | .tmp t :: r, K, h => by
    obtain ⟨v, hv, h⟩ := withV_elim h
    obtain ⟨vs, h1, h2, h3⟩ := res_sound hs f1 f2 r _ h
    refine ⟨v :: vs, ?_, by simp [h2], h3⟩
    rw [List.mapM_cons, f1]
    simp only [Sem.run_bind, Sem.run_pure, Result.andThen_ok, hs.2.2 t v hv, h1]
  | .cell t T :: r, K, h => by
    obtain ⟨v, hv, h⟩ := withV_elim h
    split at h
    · rename_i ad
      split at h
      · rename_i hb
        obtain ⟨cs, hcs, h⟩ := h
        obtain ⟨vs, h1, h2, h3⟩ := res_sound hs f1 f2 r _ h
        refine ⟨.agg cs :: vs, ?_, by simp [h2], h3⟩
        rw [List.mapM_cons, f2]
        simp only [Sem.run_bind, Sem.run_pure, Result.andThen_ok, hs.2.2 t _ hv, run_asAddr, run_loadVar_agg hb hcs, h1]
      · rename_i hb
        obtain ⟨u, hu, h⟩ := exTy_elim h
        obtain ⟨vs, h1, h2, h3⟩ := res_sound hs f1 f2 r _ h
        refine ⟨u :: vs, ?_, by simp [h2], h3⟩
        rw [List.mapM_cons, f2]
        simp only [Sem.run_bind, Sem.run_pure, Result.andThen_ok, hs.2.2 t _ hv, run_asAddr, run_loadVar_one hb hu, h1]
      · exact h.elim
    · exact h.elim

theorem results_sound {fn : Func} {a : Act} {ρ : Env} {w : World} {R : Value → Prop} (hs : SimN N a ρ) (h : resVc P ρ w.heap fn.results.toList fun vs => R (oneOrMany vs)) :
    ∃ v, (results fn a.tmps).run P w = .ok v w ∧ R v := by
  unfold results
  rw [Array.mapM_eq_mapM_toList]
  simp only [Sem.run_bind, Sem.run_map]
  generalize hF : (fun (x : ResultVar) => _ : ResultVar → Sem Value) = F
  obtain ⟨vs, h1, h2, h3⟩ := res_sound hs (F := F) (fun t => by rw [← hF]) (fun p t => by rw [← hF]) _ _ h
  refine ⟨_, ?_, h3⟩
  rw [h1]
  simp only [Result.andThen_ok, Sem.run_pure]
  congr 1
  match vs with
  | [] => rfl
  | [v] => rfl
  | v :: u :: r => simp [oneOrMany]

theorem fn_sound {f : FuncId} {args : List Value} {h : Heap} {R : Value → Heap → Prop} (hv : fnVc P A f args h R) : CallsH P f args.toArray h R := by
  unfold fnVc at hv
  split at hv
  · rename_i fn hf
    split at hv
    · rename_i c hb hle
      have hle := Nat.le_of_ble_eq_true hle
      rintro w rfl
      refine calls_of_wp hf hb ?_
      refine vc_sound (N := fn.ntmps) c (w0 := w) ⟨by simp; omega, rfl, fun t v ht => ?_⟩ (Rest.refl w) hv fun x a w' ⟨ρ, h1, h2, h3⟩ => ?_
      · obtain ⟨_, h2⟩ := argEnv_get args 0 t v ht
        simp only [Nat.sub_zero] at h2
        have hlt : t < args.length := (List.getElem?_eq_some_iff.1 h2).1
        rw [Array.getD_eq_getD_getElem?, Array.getElem?_append_left (by simpa using hlt)]
        simp [h2]
      · cases x <;> simp only [retK] at h3
        · obtain ⟨v, hr, hR⟩ := results_sound (fn := fn) (R := fun v => R v w'.heap) h1 h3
          exact ⟨h1.2.1, v, hr, v, rfl, h2, hR⟩
        · obtain ⟨v, hr, hR⟩ := results_sound (fn := fn) (R := fun v => R v w'.heap) h1 h3
          exact ⟨h1.2.1, v, hr, v, rfl, h2, hR⟩
    · exact hv.elim
  · exact hv.elim
end
end Go.Vc
