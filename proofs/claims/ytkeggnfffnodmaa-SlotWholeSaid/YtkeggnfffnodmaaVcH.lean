/- Regions: monotone, by what they read, and what a quiet operation does. -/
import Derived.Test.YtkeggnfffnodmaaVcG
set_option linter.unusedVariables false
namespace Go.Vc

section mono
variable {P : Program} {w : World}

theorem withV_mono {o : Option Value} {K K' : Value → Prop} (hk : ∀ v, K v → K' v) (h : withV o K) : withV o K' := by
  cases o with
  | none => exact h
  | some v => exact hk v h
theorem withI_mono {o : Option Value} {K K' : Int → Prop} (hk : ∀ v, K v → K' v) (h : withI o K) : withI o K' := by
  unfold withI at *
  split at h
  · exact hk _ h
  · exact h.elim
theorem deref_mono {p : Option Addr} {K K' : Addr → Prop} (hk : ∀ v, K v → K' v) (h : deref p K) : deref p K' := by
  cases p with
  | none => exact h
  | some v => exact hk v h
theorem br_mono {b : Bool} {X Y X' Y' : Prop} (hx : X → X') (hy : Y → Y') (h : br b X Y) : br b X' Y' := by
  cases b
  · exact hy h
  · exact hx h
theorem nilEq_mono {a b : Option Addr} {K K' : Bool → Prop} (hk : ∀ t, K t → K' t) (h : nilEq a b K) : nilEq a b K' := by
  cases b with
  | none => exact hk _ h
  | some b => cases a with
    | none => exact hk _ h
    | some a => exact h
theorem binVc_mono {op : BinOp} {t : TypeId} {x y : Value} {K K' : Value → Prop} (hk : ∀ v, K v → K' v) (h : binVc P op t x y K) : binVc P op t x y K' := by
  unfold binVc at *
  split at h
  case h_1 => exact ⟨h.1, hk _ h.2⟩
  case h_2 => exact ⟨h.1, hk _ h.2⟩
  case h_3 =>
    split at h
    · rename_i heq
      subst heq
      try simp only [if_true]
      unfold intVc at *
      split at h
      all_goals first
        | exact ⟨h.1, hk _ h.2⟩
        | exact hk _ h
        | exact h
        | (split at h
           · exact hk _ h
           · exact h.elim)
    · exact h.elim
  all_goals first
    | exact h.elim
    | exact hk _ h
    | (split at h
       · first | exact nilEq_mono (fun _ h => hk _ h) h | exact hk _ h | (obtain ⟨la, lb, h1, h2, h3⟩ := h; exact ⟨la, lb, h1, h2, fun r hr => hk _ (h3 r hr)⟩)
       · exact h.elim)
theorem unVc_mono {op : UnOp} {x : Value} {K K' : Value → Prop} (hk : ∀ v, K v → K' v) (h : unVc op x K) : unVc op x K' := by
  unfold unVc at *
  split at h <;> first | exact hk _ h | exact h
theorem partVc_mono {t : TypeId} {cs : Array Value} {off : Nat} {K K' : Value → Prop} (hk : ∀ v, K v → K' v) (h : partVc P t cs off K) : partVc P t cs off K' := by
  unfold partVc at *
  split at h
  · exact hk _ h
  · exact exTy_mono (fun v h => ⟨h.1, hk _ h.2⟩) h
  · exact h
theorem fillVc_mono {pl : List (Nat × Nat)} : ∀ {ps : List (Nat × Value)} {ch : List (List Value)} {K K' : List (List Value) → Prop}, (∀ v, K v → K' v) → fillVc pl ch ps K → fillVc pl ch ps K'
  | [], ch, K, K', hk, h => hk _ h
  | (i, v) :: r, ch, K, K', hk, h => by
    unfold fillVc at *
    split at h
    · split at h
      · exact ⟨h.1, fillVc_mono hk h.2⟩
      · split at h
        · exact fillVc_mono hk h
        · exact h
    · exact h
theorem partsVc_mono {pl : List (Nat × Nat)} {zero : List Value} {ps : List (Nat × Value)} {K K' : List Value → Prop} (hk : ∀ v, K v → K' v) (h : partsVc pl zero ps K) : partsVc pl zero ps K' := by
  unfold partsVc at *
  split at h
  · exact fillVc_mono (fun _ h => hk _ h) h
  · exact h
theorem newBlk_mono {h : Heap} {t : TypeId} {cells : Array Value} {K K' : Nat → Heap → Prop} (hk : ∀ b h, K b h → K' b h) (hh : newBlk h t cells K) : newBlk h t cells K' :=
  fun b h' e1 e2 => hk _ _ (hh b h' e1 e2)
theorem storeP_mono {n : Option Nat} {h : Heap} {a : Addr} {v : Value} {K K' : Heap → Prop} (hk : ∀ h, K h → K' h) (hh : storeP n h a v K) : storeP n h a v K' := by
  cases n with
  | none => exact ⟨hh.1, hh.2.1, fun h' e => hk _ (hh.2.2 h' e)⟩
  | some n => exact ⟨hh.1, hh.2.1, hh.2.2.1, fun h' e => hk _ (hh.2.2.2 h' e)⟩
theorem appendP_mono {e : TypeId} {sz bytes : Nat} {zero : Array Value} {p q : Option Addr} {l c n : Nat} {h : Heap} {K K' : Option Addr → Nat → Nat → Heap → Prop} (hk : ∀ p l c h, K p l c h → K' p l c h)
    (hh : appendP e sz bytes zero p l c q n h K) : appendP e sz bytes zero p l c q n h K' := by
  obtain ⟨news, h1, h2, h3, h4⟩ := hh
  refine ⟨news, h1, h2, fun hc => ⟨(h3 hc).1, fun h' e => hk _ _ _ _ ((h3 hc).2 h' e)⟩, fun hc => ?_⟩
  obtain ⟨g1, g2, old, g3, g4⟩ := h4 hc
  exact ⟨g1, g2, old, g3, fun c' b h' e1 e2 e3 e4 => hk _ _ _ _ (g4 c' b h' e1 e2 e3 e4)⟩
theorem copyP_mono {sz : Nat} {p q : Option Addr} {l n : Nat} {h : Heap} {K K' : Int → Heap → Prop} (hk : ∀ v h, K v h → K' v h) (hh : copyP sz p l q n h K) : copyP sz p l q n h K' := by
  obtain ⟨news, h1, h2, h3, h4⟩ := hh
  exact ⟨news, h1, h2, h3, fun h' e => hk _ _ (h4 h' e)⟩
theorem sliceP_mono {sz : Nat} {p : Option Addr} {l h m : Int} {c : Nat} {K K' : Option Addr → Nat → Nat → Prop} (hk : ∀ p l c, K p l c → K' p l c) (hh : sliceP sz p l h m c K) : sliceP sz p l h m c K' :=
  ⟨hh.1, hh.2.1, hh.2.2.1, hh.2.2.2.1, hk _ _ _ hh.2.2.2.2⟩
theorem makeP_mono {e : TypeId} {sz bytes : Nat} {zero : Array Value} {l c : Int} {h : Heap} {K K' : Nat → Heap → Prop} (hk : ∀ v h, K v h → K' v h) (hh : makeP e sz bytes zero l c h K) : makeP e sz bytes zero l c h K' :=
  ⟨hh.1, hh.2.1, hh.2.2.1, hh.2.2.2.1, newBlk_mono (fun _ _ h => hk _ _ h) hh.2.2.2.2⟩
theorem cutVc_mono {sz : Nat} {p : Option Addr} {len cap : Nat} {lo hi mx : Option Value} {K K' : Value → Prop} (hk : ∀ v, K v → K' v) (h : cutVc sz p len cap lo hi mx K) : cutVc sz p len cap lo hi mx K' := by
  unfold cutVc at *
  simp only at *
  split at h
  · split at h
    · split at h
      · split at h
        · exact sliceP_mono (fun _ _ _ h => hk _ h) h
        · exact sliceP_mono (fun _ _ _ h => hk _ h) h
        · exact h
      · split at h
        · exact sliceP_mono (fun _ _ _ h => hk _ h) h
        · exact sliceP_mono (fun _ _ _ h => hk _ h) h
        · exact h
      · exact h
    · exact h
  · split at h
    · split at h
      · exact sliceP_mono (fun _ _ _ h => hk _ h) h
      · exact sliceP_mono (fun _ _ _ h => hk _ h) h
      · exact h
    · split at h
      · exact sliceP_mono (fun _ _ _ h => hk _ h) h
      · exact sliceP_mono (fun _ _ _ h => hk _ h) h
      · exact h
    · exact h
  · exact h
theorem sliceVc_mono {t : TypeId} {x : Value} {lo hi mx : Option Value} {K K' : Value → Prop} (hk : ∀ v, K v → K' v) (h : sliceVc P t x lo hi mx K) : sliceVc P t x lo hi mx K' := by
  unfold sliceVc at *
  split at h
  · split at h
    · exact cutVc_mono hk h
    · exact h
  · split at h
    · exact cutVc_mono hk h
    · exact h
  · exact h
theorem indexAddrVc_mono {t : TypeId} {x : Value} {i : Int} {K K' : Value → Prop} (hk : ∀ v, K v → K' v) (h : indexAddrVc P t x i K) : indexAddrVc P t x i K' := by
  unfold indexAddrVc at *
  split at h
  · split at h
    · exact ⟨h.1, h.2.1, hk _ h.2.2⟩
    · exact h
  · split at h
    · exact ⟨h.1, h.2.1, deref_mono (fun _ h => hk _ h) h.2.2⟩
    · exact h
  · exact h
theorem indexVc_mono {t : TypeId} {x : Value} {i : Int} {K K' : Value → Prop} (hk : ∀ v, K v → K' v) (h : indexVc P t x i K) : indexVc P t x i K' := by
  unfold indexVc at *
  split at h
  · exact ⟨h.1, h.2.1, partVc_mono hk h.2.2⟩
  · obtain ⟨h0, b, h1, h2⟩ := h
    exact ⟨h0, b, h1, hk _ h2⟩
  · exact h
theorem buildVc_mono {t : TypeId} {ps : List (Nat × Value)} {K K' : Array Value → Prop} (hk : ∀ v, K v → K' v) (h : buildVc P t ps K) : buildVc P t ps K' := by
  unfold buildVc at *
  split at h
  · split at h
    · exact partsVc_mono (fun _ h => hk _ h) h
    · exact h
  · split at h
    · exact partsVc_mono (fun _ h => hk _ h) h
    · exact h
  · exact h
theorem buildSliceVc_mono {t : TypeId} {n : Nat} {ps : List (Nat × Value)} {h : Heap} {K K' : Value → Heap → Prop} (hk : ∀ v h, K v h → K' v h) (hh : buildSliceVc P t n ps h K) : buildSliceVc P t n ps h K' := by
  unfold buildSliceVc at *
  split at hh
  · split at hh
    · split at hh
      · exact partsVc_mono (fun _ h => newBlk_mono (fun _ _ h => hk _ _ h) h) hh
      · split at hh
        · exact newBlk_mono (fun _ _ h => hk _ _ h) hh
        · exact hh
    · exact hh
  · exact hh
theorem convVc_mono {s d : TypeId} {x : Value} {h : Heap} {K K' : Value → Heap → Prop} (hk : ∀ v h, K v h → K' v h) (hh : convVc P s d x h K) : convVc P s d x h K' := by
  unfold convVc at *
  split at hh
  · exact hk _ _ hh
  · split at hh
    · exact ⟨hh.1, fun h' e => hk _ _ (hh.2 h' e)⟩
    · exact hh
  · split at hh
    · exact ⟨hh.1, fun c' b h' e1 e2 e3 e4 => hk _ _ (hh.2 c' b h' e1 e2 e3 e4)⟩
    · exact hh
  · split at hh
    · obtain ⟨xs, h1, h2⟩ := hh
      exact ⟨xs, h1, hk _ _ h2⟩
    · exact hh
  · exact hh
theorem externVc_mono {args : List Value} {h : Heap} {K K' : Value → Heap → Prop} (hk : ∀ v h, K v h → K' v h) (hh : externVc args h K) : externVc args h K' := by
  unfold externVc at *
  split at hh
  · obtain ⟨xs, ys, h1, h2, h3⟩ := hh
    exact ⟨xs, ys, h1, h2, hk _ _ h3⟩
  · exact hh
theorem builtinVc_mono {b : Builtin} {ts : List TypeId} {args : List Value} {h : Heap} {K K' : Value → Heap → Prop} (hk : ∀ v h, K v h → K' v h) (hh : builtinVc P b ts args h K) : builtinVc P b ts args h K' := by
  unfold builtinVc at *
  split at hh
  · split at hh
    · exact hk _ _ hh
    · exact hk _ _ hh
    · exact hk _ _ hh
    · split at hh
      · exact hk _ _ hh
      · exact hh
    · exact hh
  · split at hh
    · exact hk _ _ hh
    · exact hh
  · split at hh
    · exact hk _ _ hh
    · exact hh
  · split at hh
    · exact hk _ _ hh
    · exact hh
  · split at hh
    · split at hh
      · exact appendP_mono (fun _ _ _ _ h => hk _ _ h) hh
      · exact hh
    · exact hh
  · split at hh
    · split at hh
      · exact copyP_mono (fun _ _ h => hk _ _ h) hh
      · exact hh
    · exact hh
  · exact hh
theorem CallsH.mono {f : FuncId} {args : Array Value} {h : Heap} {R R' : Value → Heap → Prop} (hh : CallsH P f args h R) (hr : ∀ v h, R v h → R' v h) : CallsH P f args h R' :=
  fun w hw => (hh w hw).mono fun e w' ⟨v, he, hrest, hv⟩ => ⟨v, he, hrest, hr _ _ hv⟩
theorem callVc_mono {qs : List Nat} {f : FuncId} {t : TypeId} {args : List Value} {h : Heap} {K K' : Value → Heap → Prop} (hk : ∀ v h, K v h → K' v h) (hh : callVc P qs f t args h K) : callVc P qs f t args h K' := by
  unfold callVc at *
  split at hh
  · split at hh
    · exact hh.mono fun v h hb => ⟨hb.1, back_mono (fun v h => hk _ _ h) hb.2⟩
    · exact hh.mono fun v h hb => back_mono (fun v h => hk _ _ h) hb
  · split at hh
    · exact externVc_mono hk hh
    · exact hh

theorem opVc_mono {qs : List Nat} {op : Op} {ty : TypeId} {ρ : Env} {h : Heap} {K K' : Value → Heap → Prop} (hk : ∀ v h, K v h → K' v h) (hh : opVc P qs op ty ρ h K) : opVc P qs op ty ρ h K' := by
  cases op <;> simp only [opVc] at hh ⊢
  case move => exact withV_mono (fun _ h => hk _ _ h) hh
  case assign => exact withV_mono (fun _ h => hk _ _ h) hh
  case pick =>
    refine withV_mono (fun v hv => ?_) hh
    split at hv
    · exact br_mono (withV_mono (fun _ h => hk _ _ h)) (withV_mono (fun _ h => hk _ _ h)) hv
    · exact hv
  case alloc =>
    split at hh
    · exact newBlk_mono (fun _ _ h => hk _ _ h) hh
    · exact hh
  case box => exact withV_mono (fun _ h => newBlk_mono (fun _ _ h => hk _ _ h) h) hh
  case build =>
    split at hh
    · exact buildVc_mono (fun _ h => hk _ _ h) hh
    · exact hh
  case buildSlice =>
    split at hh
    · exact buildSliceVc_mono hk hh
    · exact hh
  case load =>
    refine withV_mono (fun v hv => ?_) hh
    split at hv
    · split at hv
      · obtain ⟨cs, h1, h2⟩ := hv; exact ⟨cs, h1, hk _ _ h2⟩
      · exact exTy_mono (fun _ h => ⟨h.1, hk _ _ h.2⟩) hv
      · exact hv
    · exact hv
  case store =>
    refine withV_mono (fun v hv => withV_mono (fun u hu => ?_) hv) hh
    split at hu
    · split at hu
      · exact storeP_mono (fun _ h => hk _ _ h) hu
      · split at hu
        · exact storeP_mono (fun _ h => hk _ _ h) hu
        · exact hu
      · exact hu
    · exact hu
  case nilCheck =>
    refine withV_mono (fun v hv => ?_) hh
    split at hv
    · exact deref_mono (fun _ h => hk _ _ h) hv
    · exact hv
  case binOp => exact withV_mono (fun _ h => withV_mono (fun _ h => binVc_mono (fun _ h => hk _ _ h) h) h) hh
  case unOp => exact withV_mono (fun _ h => unVc_mono (fun _ h => hk _ _ h) h) hh
  case convert => exact withV_mono (fun _ h => convVc_mono hk h) hh
  case sliceToArrayPointer =>
    refine withV_mono (fun v hv => ?_) hh
    split at hv
    · exact ⟨hv.1, deref_mono (fun _ h => hk _ _ h) hv.2⟩
    · exact hv
  case makeFunc =>
    split at hh
    · exact hk _ _ hh
    · exact hh
  case makeSlice =>
    refine withI_mono (fun v hv => withI_mono (fun u hu => ?_) hv) hh
    split at hu
    · split at hu
      · exact makeP_mono (fun _ _ h => hk _ _ h) hu
      · exact hu
    · exact hu
  case slice =>
    refine withV_mono (fun v hv => ?_) hh
    split at hv
    · exact sliceVc_mono (fun _ h => hk _ _ h) hv
    · exact hv
  case fieldAddr =>
    refine withV_mono (fun v hv => ?_) hh
    split at hv
    · split at hv
      · exact hv
      · exact hk _ _ hv
    · exact hv
  case field =>
    refine withV_mono (fun v hv => ?_) hh
    split at hv
    · exact partVc_mono (fun _ h => hk _ _ h) hv
    · exact hv
  case indexAddr => exact withV_mono (fun _ h => withI_mono (fun _ h => indexAddrVc_mono (fun _ h => hk _ _ h) h) h) hh
  case index => exact withV_mono (fun _ h => withI_mono (fun _ h => indexVc_mono (fun _ h => hk _ _ h) h) h) hh
  case extract =>
    refine withV_mono (fun v hv => ?_) hh
    split at hv
    · exact withV_mono (fun _ h => hk _ _ h) hv
    · exact hv
  case call =>
    split at hh
    · split at hh
      · refine withV_mono (fun v hv => ?_) hh
        split at hv
        · exact callVc_mono hk hv
        · exact hv
      · exact builtinVc_mono hk hh
      · exact hh
    · exact hh
end mono
end Go.Vc
