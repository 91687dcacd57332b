/- What a quiet operation does is one value. -/
import Derived.Test.YtkeggnfffnodmaaVcI
set_option linter.unusedVariables false
namespace Go.Vc

section
variable {P : Program}

/-- One value, whatever is asked of it. -/
def Dirac (F : (Value → Prop) → Prop) : Prop := ∀ K, F K → ∃ v, K v ∧ ∀ K' : Value → Prop, K' v → F K'

theorem dirac_withV {o : Option Value} {F : Value → (Value → Prop) → Prop} (h : ∀ v, Dirac (F v)) : Dirac fun K => withV o fun v => F v K := by
  intro K hK
  cases o with
  | none => exact hK.elim
  | some v => exact h v K hK
theorem dirac_withI {o : Option Value} {F : Int → (Value → Prop) → Prop} (h : ∀ v, Dirac (F v)) : Dirac fun K => withI o fun v => F v K := by
  intro K hK
  cases o with
  | none => exact hK.elim
  | some v => cases v <;> first | exact hK.elim | exact h _ K hK
theorem dirac_id {v : Value} : Dirac fun K => K v := fun K h => ⟨v, h, fun _ h => h⟩
theorem dirac_false : Dirac fun _ => False := fun K h => h.elim
theorem dirac_and {p : Prop} {F : (Value → Prop) → Prop} (h : Dirac F) : Dirac fun K => p ∧ F K :=
  fun K ⟨h0, h1⟩ => let ⟨v, hv, hr⟩ := h K h1; ⟨v, hv, fun K' hk => ⟨h0, hr K' hk⟩⟩
theorem dirac_deref {p : Option Addr} {F : Addr → (Value → Prop) → Prop} (h : ∀ a, Dirac (F a)) : Dirac fun K => deref p fun a => F a K := by
  intro K hK
  cases p with
  | none => exact hK.elim
  | some a => exact h a K hK
theorem dirac_exTy {T : Ty} {o : Option Value} : Dirac fun K => exTy T fun x => o = some x ∧ K x := by
  intro K hK
  cases T <;> simp only [exTy] at hK ⊢
  case int => obtain ⟨n, h, hk⟩ := hK; exact ⟨_, hk, fun _ h' => ⟨n, h, h'⟩⟩
  case bool => obtain ⟨n, h, hk⟩ := hK; exact ⟨_, hk, fun _ h' => ⟨n, h, h'⟩⟩
  case str => obtain ⟨n, h, hk⟩ := hK; exact ⟨_, hk, fun _ h' => ⟨n, h, h'⟩⟩
  case ptr => obtain ⟨n, h, hk⟩ := hK; exact ⟨_, hk, fun _ h' => ⟨n, h, h'⟩⟩
  case slice => obtain ⟨p, l, c, h, hk⟩ := hK; exact ⟨_, hk, fun _ h' => ⟨p, l, c, h, h'⟩⟩
  case map => obtain ⟨n, h, hk⟩ := hK; exact ⟨_, hk, fun _ h' => ⟨n, h, h'⟩⟩
  case agg => obtain ⟨n, h0, h, hk⟩ := hK; exact ⟨_, hk, fun _ h' => ⟨n, h0, h, h'⟩⟩
  case raw => obtain ⟨n, h, hk⟩ := hK; exact ⟨_, hk, fun _ h' => ⟨n, h, h'⟩⟩
  case addr => obtain ⟨n, h, hk⟩ := hK; exact ⟨_, hk, fun _ h' => ⟨n, h, h'⟩⟩
  case blk => obtain ⟨n, h, hk⟩ := hK; exact ⟨_, hk, fun _ h' => ⟨n, h, h'⟩⟩

theorem eqAgg_one {t : TypeId} {xs ys : Array Value} {K : Bool → Prop} (h : eqAgg P t xs ys K) : ∃ r, K r ∧ ∀ K' : Bool → Prop, K' r → eqAgg P t xs ys K' := by
  obtain ⟨la, lb, h1, h2, h3⟩ := h
  by_cases he : la = lb
  · refine ⟨true, h3 true (by simp [he]), fun K' hk => ⟨la, lb, h1, h2, fun r hr => ?_⟩⟩
    have : r = true := hr.2 he
    subst this; exact hk
  · refine ⟨false, h3 false (by simp [he]), fun K' hk => ⟨la, lb, h1, h2, fun r hr => ?_⟩⟩
    have : r = false := by cases r <;> simp_all
    subst this; exact hk

theorem nilEq_one {a b : Option Addr} {K : Bool → Prop} (h : nilEq a b K) : ∃ r, K r ∧ ∀ K' : Bool → Prop, K' r → nilEq a b K' := by
  cases b with
  | none => exact ⟨_, h, fun _ h => h⟩
  | some b => cases a with
    | none => exact ⟨_, h, fun _ h => h⟩
    | some a => exact h.elim

theorem dirac_bin {op : BinOp} {t : TypeId} {x y : Value} : Dirac fun K => binVc P op t x y K := by
  intro K h
  simp only at h ⊢
  unfold binVc at h ⊢
  split at h
  case h_1 => exact ⟨_, h.2, fun _ h' => ⟨h.1, h'⟩⟩
  case h_2 => exact ⟨_, h.2, fun _ h' => ⟨h.1, h'⟩⟩
  case h_3 =>
    split at h
    · rename_i heq
      subst heq
      try simp only [if_true]
      unfold intVc at h ⊢
      split at h
      all_goals first
        | exact ⟨_, h.2, fun _ h' => ⟨h.1, h'⟩⟩
        | (split at h
           · exact ⟨_, h, fun _ h' => h'⟩
           · exact h.elim)
        | exact h.elim
        | exact ⟨_, h, fun _ h' => h'⟩
    · exact h.elim
  all_goals first
    | exact h.elim
    | exact ⟨_, h, fun _ h' => h'⟩
    | (split at h
       · first
         | (obtain ⟨r, h1, h2⟩ := nilEq_one h
            exact ⟨_, h1, fun K' h' => h2 _ h'⟩)
         | (obtain ⟨r, h1, h2⟩ := eqAgg_one h
            exact ⟨_, h1, fun K' h' => h2 _ h'⟩)
         | exact ⟨_, h, fun _ h' => h'⟩
       · exact h.elim)

theorem dirac_un {op : UnOp} {x : Value} : Dirac fun K => unVc op x K := by
  intro K h
  simp only at h ⊢
  unfold unVc at h ⊢
  split at h <;> first | exact h.elim | exact ⟨_, h, fun _ h' => h'⟩

theorem dirac_part {t : TypeId} {cs : Array Value} {off : Nat} : Dirac fun K => partVc P t cs off K := by
  intro K h
  simp only at h ⊢
  unfold partVc at h ⊢
  split at h
  · exact ⟨_, h, fun _ h' => h'⟩
  · exact dirac_exTy K h
  · exact h.elim

theorem fill_one {pl : List (Nat × Nat)} : ∀ {ps : List (Nat × Value)} {ch : List (List Value)} {K : List (List Value) → Prop}, fillVc pl ch ps K → ∃ v, K v ∧ ∀ K' : List (List Value) → Prop, K' v → fillVc pl ch ps K'
  | [], ch, K, h => ⟨_, h, fun _ h => h⟩
  | (i, v) :: r, ch, K, h => by
    unfold fillVc at h ⊢
    split at h
    · split at h
      · obtain ⟨v, h1, h2⟩ := fill_one h.2
        exact ⟨v, h1, fun K' hk => ⟨h.1, h2 K' hk⟩⟩
      · split at h
        · obtain ⟨v, h1, h2⟩ := fill_one h
          exact ⟨v, h1, fun K' hk => h2 K' hk⟩
        · exact h.elim
    · exact h.elim
theorem parts_one {pl : List (Nat × Nat)} {zero : List Value} {ps : List (Nat × Value)} {K : List Value → Prop} (h : partsVc pl zero ps K) : ∃ v, K v ∧ ∀ K' : List Value → Prop, K' v → partsVc pl zero ps K' := by
  unfold partsVc at h ⊢
  split at h
  · obtain ⟨v, h1, h2⟩ := fill_one h
    exact ⟨_, h1, fun K' hk => h2 _ hk⟩
  · exact h.elim
theorem dirac_build {t : TypeId} {ps : List (Nat × Value)} : Dirac fun K => buildVc P t ps fun cs => K (.agg cs) := by
  intro K h
  simp only at h ⊢
  unfold buildVc at h ⊢
  split at h
  · split at h
    · obtain ⟨v, h1, h2⟩ := parts_one h
      exact ⟨_, h1, fun K' hk => h2 _ hk⟩
    · exact h.elim
  · split at h
    · obtain ⟨v, h1, h2⟩ := parts_one h
      exact ⟨_, h1, fun K' hk => h2 _ hk⟩
    · exact h.elim
  · exact h.elim
theorem dirac_sliceP {sz : Nat} {p : Option Addr} {l h m : Int} {c : Nat} : Dirac fun K => sliceP sz p l h m c fun p l c => K (.slice p l c) :=
  fun K ⟨a, b, c, d, e⟩ => ⟨_, e, fun _ e' => ⟨a, b, c, d, e'⟩⟩
theorem dirac_cut {sz : Nat} {p : Option Addr} {len cap : Nat} {lo hi mx : Option Value} : Dirac fun K => cutVc sz p len cap lo hi mx K := by
  intro K h
  simp only [cutVc] at h ⊢
  split at h
  · split at h
    · split at h
      · split at h
        · exact dirac_sliceP K h
        · exact dirac_sliceP K h
        · exact h.elim
      · split at h
        · exact dirac_sliceP K h
        · exact dirac_sliceP K h
        · exact h.elim
      · exact h.elim
    · exact h.elim
  · split at h
    · split at h
      · exact dirac_sliceP K h
      · exact dirac_sliceP K h
      · exact h.elim
    · split at h
      · exact dirac_sliceP K h
      · exact dirac_sliceP K h
      · exact h.elim
    · exact h.elim
  · exact h.elim
theorem dirac_slice {t : TypeId} {x : Value} {lo hi mx : Option Value} : Dirac fun K => sliceVc P t x lo hi mx K := by
  intro K h
  simp only [sliceVc] at h ⊢
  split at h
  · split at h
    · exact dirac_cut K h
    · exact h.elim
  · split at h
    · exact dirac_cut K h
    · exact h.elim
  · exact h.elim
theorem dirac_indexAddr {t : TypeId} {x : Value} {i : Int} : Dirac fun K => indexAddrVc P t x i K := by
  intro K h
  simp only [indexAddrVc] at h ⊢
  split at h
  · split at h
    · exact ⟨_, h.2.2, fun _ h' => ⟨h.1, h.2.1, h'⟩⟩
    · exact h.elim
  · split at h
    · obtain ⟨a, rfl, hk⟩ := deref_elim h.2.2
      exact ⟨_, hk, fun _ h' => ⟨h.1, h.2.1, h'⟩⟩
    · exact h.elim
  · exact h.elim
theorem dirac_index {t : TypeId} {x : Value} {i : Int} : Dirac fun K => indexVc P t x i K := by
  intro K h
  simp only [indexVc] at h ⊢
  split at h
  · obtain ⟨v, h1, h2⟩ := dirac_part K h.2.2
    exact ⟨v, h1, fun K' hk => ⟨h.1, h.2.1, h2 K' hk⟩⟩
  · obtain ⟨h0, b, h1, h2⟩ := h
    exact ⟨_, h2, fun K' hk => ⟨h0, b, h1, hk⟩⟩
  · exact h.elim

/-- Only computes. -/
def pureB (P : Program) : Op → Bool
  | .move _ | .assign _ | .pick .. | .build .. | .binOp .. | .unOp .. | .extract .. | .field .. | .index .. | .fieldAddr .. | .indexAddr .. | .nilCheck _ | .slice .. | .sliceToArrayPointer .. | .makeFunc .. => true
  | .convert _ d _ => (match P.underlying d with | some (.int _) => true | _ => false)
  | .call { callee := .builtin .len, .. } | .call { callee := .builtin .cap, .. } | .call { callee := .builtin .min, .. } | .call { callee := .builtin .max, .. } => true
  | _ => false
/-- Only reads. -/
def readB : Op → Bool
  | .load .. => true
  | _ => false
/-- Writes nothing that was there. -/
def growB (P : Program) (qs : List Nat) (op : Op) : Bool :=
  pureB P op || readB op || (match op with
    | .alloc _ | .box .. | .buildSlice .. | .makeSlice .. => true
    | .call { callee := .value (.func f), .. } => inL qs f
    | _ => false)

theorem br_one {b : Bool} {X Y : (Value → Prop) → Prop} (hx : Dirac X) (hy : Dirac Y) : Dirac fun K => br b (X K) (Y K) := by
  intro K h
  cases b
  · exact hy K h
  · exact hx K h

theorem pure_one {qs : List Nat} {op : Op} {ty : TypeId} {ρ : Env} {h : Heap} {K : Value → Heap → Prop} (hp : pureB P op = true) (hh : opVc P qs op ty ρ h K) :
    ∃ v, K v h ∧ ∀ (h' : Heap) (K' : Value → Heap → Prop), K' v h' → opVc P qs op ty ρ h' K' := by
  have use : ∀ {F : (Value → Prop) → Prop}, Dirac F → (F fun v => K v h) → ∃ v, K v h ∧ ∀ (h' : Heap) (K' : Value → Heap → Prop), K' v h' → F fun v => K' v h' := by
    intro F hd hF
    obtain ⟨v, hv, hr⟩ := hd _ hF
    exact ⟨v, hv, fun h' K' hk => hr _ hk⟩
  cases op <;> simp only [pureB, Bool.false_eq_true] at hp <;> simp only [opVc] at hh ⊢
  case move => exact use (F := fun K => withV _ fun v => K v) (dirac_withV fun _ => dirac_id) hh
  case assign => exact use (F := fun K => withV _ fun v => K v) (dirac_withV fun _ => dirac_id) hh
  case pick c a b =>
    obtain ⟨v, hv, hh⟩ := withV_elim hh
    rw [hv]
    simp only [withV] at hh ⊢
    split at hh
    · exact use (F := fun K => br _ (withV _ fun v => K v) (withV _ fun v => K v)) (br_one (dirac_withV fun _ => dirac_id) (dirac_withV fun _ => dirac_id)) hh
    · exact hh.elim
  case build =>
    split at hh
    · exact use (F := fun K => buildVc P _ _ fun cs => K (.agg cs)) dirac_build hh
    · exact hh.elim
  case nilCheck x =>
    obtain ⟨v, hv, hh⟩ := withV_elim hh
    rw [hv]
    simp only [withV] at hh ⊢
    split at hh
    · exact use (F := fun K => deref _ fun a => K (.pointer (some a))) (dirac_deref fun _ => dirac_id) hh
    · exact hh.elim
  case binOp => exact use (F := fun K => withV _ fun a => withV _ fun b => binVc P _ _ a b fun v => K v) (dirac_withV fun _ => dirac_withV fun _ => dirac_bin) hh
  case unOp => exact use (F := fun K => withV _ fun a => unVc _ a fun v => K v) (dirac_withV fun _ => dirac_un) hh
  case convert s d x =>
    obtain ⟨v, hv, hh⟩ := withV_elim hh
    rw [hv]
    simp only [withV] at hh ⊢
    unfold convVc at hh ⊢
    split at hp
    · rename_i k hd
      rw [hd] at hh ⊢
      split at hh
      · exact ⟨_, hh, fun _ _ h' => h'⟩
      all_goals first
        | exact hh.elim
        | (rename_i heq; cases heq; done)
    · cases hp
  case sliceToArrayPointer t x =>
    obtain ⟨v, hv, hh⟩ := withV_elim hh
    rw [hv]
    simp only [withV] at hh ⊢
    split at hh
    · obtain ⟨a, rfl, hk⟩ := deref_elim hh.2
      exact ⟨_, hk, fun _ _ h' => ⟨hh.1, h'⟩⟩
    · exact hh.elim
  case makeFunc =>
    split at hh
    · exact ⟨_, hh, fun _ _ h' => h'⟩
    · exact hh.elim
  case slice t x lo hi mx =>
    obtain ⟨v, hv, hh⟩ := withV_elim hh
    rw [hv]
    simp only [withV] at hh ⊢
    split at hh
    · exact use (F := fun K => sliceVc P _ _ _ _ _ fun u => K u) dirac_slice hh
    · exact hh.elim
  case fieldAddr t x i =>
    obtain ⟨v, hv, hh⟩ := withV_elim hh
    rw [hv]
    simp only [withV] at hh ⊢
    split at hh
    · split at hh
      · exact hh.elim
      · exact ⟨_, hh, fun _ _ h' => h'⟩
    · exact hh.elim
  case field t x i =>
    obtain ⟨v, hv, hh⟩ := withV_elim hh
    rw [hv]
    simp only [withV] at hh ⊢
    split at hh
    · exact use (F := fun K => partVc P _ _ _ fun u => K u) dirac_part hh
    · exact hh.elim
  case indexAddr => exact use (F := fun K => withV _ fun a => withI _ fun b => indexAddrVc P _ a b fun v => K v) (dirac_withV fun _ => dirac_withI fun _ => dirac_indexAddr) hh
  case index => exact use (F := fun K => withV _ fun a => withI _ fun b => indexVc P _ a b fun v => K v) (dirac_withV fun _ => dirac_withI fun _ => dirac_index) hh
  case extract x i =>
    obtain ⟨v, hv, hh⟩ := withV_elim hh
    rw [hv]
    simp only [withV] at hh ⊢
    split at hh
    · exact use (F := fun K => withV _ fun v => K v) (dirac_withV fun _ => dirac_id) hh
    · exact hh.elim
  case call c =>
    obtain ⟨callee, cargs, cts⟩ := c
    cases callee with
    | value f => simp at hp
    | invoke r m => simp at hp
    | builtin b =>
      simp only at hh ⊢
      split at hh
      · unfold builtinVc at hh ⊢
        split at hh
        · split at hh
          · exact ⟨_, hh, fun _ _ h' => h'⟩
          · exact ⟨_, hh, fun _ _ h' => h'⟩
          · exact ⟨_, hh, fun _ _ h' => h'⟩
          · split at hh
            · exact ⟨_, hh, fun _ _ h' => h'⟩
            · exact hh.elim
          · exact hh.elim
        · split at hh
          · exact ⟨_, hh, fun _ _ h' => h'⟩
          · exact hh.elim
        · split at hh
          · exact ⟨_, hh, fun _ _ h' => h'⟩
          · exact hh.elim
        · split at hh
          · exact ⟨_, hh, fun _ _ h' => h'⟩
          · exact hh.elim
        · simp at hp
        · simp at hp
        · exact hh.elim
      · exact hh.elim

theorem Ext.refl (h : Heap) : Ext h h := fun _ _ => rfl
theorem Ext.size {h h' : Heap} (he : Ext h h') : h.size ≤ h'.size := by
  rcases Nat.eq_zero_or_pos h.size with h0 | h0
  · omega
  · have := he (h.size - 1) (by omega)
    rw [Array.getElem?_eq_getElem (by omega : h.size - 1 < h.size)] at this
    have := (Array.getElem?_eq_some_iff.1 this).1
    omega
theorem Ext.trans {h h' h'' : Heap} (he : Ext h h') (he' : Ext h' h'') : Ext h h'' := fun b hb => (he' b (Nat.lt_of_lt_of_le hb he.size)).trans (he b hb)
theorem Ext.push (h : Heap) (o : Obj) : Ext h (h.push o) := fun b hb => by rw [Array.getElem?_push_lt hb]; exact (Array.getElem?_eq_getElem hb).symm
theorem cell_lt {h : Heap} {a : Addr} {v : Value} (hc : cell h a = some v) : a.block < h.size := by
  unfold cell at hc
  split at hc
  · rename_i hb; exact (Array.getElem?_eq_some_iff.1 hb).1
  · cases hc
theorem Ext.cell {h h' : Heap} (he : Ext h h') {a : Addr} {v : Value} (hc : Vc.cell h a = some v) : Vc.cell h' a = some v := by
  have := he a.block (cell_lt hc)
  unfold Vc.cell at *
  rw [this]; exact hc
theorem Ext.rowFrom {h h' : Heap} (he : Ext h h') {a : Addr} : ∀ (n i : Nat) (l : List Value), Vc.rowFrom h a i n = some l → Vc.rowFrom h' a i n = some l
  | 0, i, l, hr => hr
  | n + 1, i, l, hr => by
    simp only [Vc.rowFrom] at hr ⊢
    split at hr
    · rename_i v hv
      rw [he.cell hv]
      obtain ⟨l', hl', rfl⟩ := Option.map_eq_some_iff.1 hr
      simp [Ext.rowFrom he n (i + 1) l' hl']
    · cases hr
theorem Ext.row {h h' : Heap} (he : Ext h h') {a : Addr} {n : Nat} {cs : Array Value} (hr : Vc.row h a n = some cs) : Vc.row h' a n = some cs := by
  unfold Vc.row at *
  obtain ⟨l, hl, rfl⟩ := Option.map_eq_some_iff.1 hr
  rw [he.rowFrom n 0 l hl]; rfl

theorem exTy_cell {T : Ty} {h h' : Heap} (he : Ext h h') {a : Addr} {K : Value → Prop} (hK : exTy T fun x => cell h a = some x ∧ K x) :
    ∃ v, K v ∧ ∀ K' : Value → Prop, K' v → exTy T fun x => cell h' a = some x ∧ K' x := by
  cases T <;> simp only [exTy] at hK ⊢
  case int => obtain ⟨n, h, hk⟩ := hK; exact ⟨_, hk, fun _ h' => ⟨n, he.cell h, h'⟩⟩
  case bool => obtain ⟨n, h, hk⟩ := hK; exact ⟨_, hk, fun _ h' => ⟨n, he.cell h, h'⟩⟩
  case str => obtain ⟨n, h, hk⟩ := hK; exact ⟨_, hk, fun _ h' => ⟨n, he.cell h, h'⟩⟩
  case ptr => obtain ⟨n, h, hk⟩ := hK; exact ⟨_, hk, fun _ h' => ⟨n, he.cell h, h'⟩⟩
  case slice => obtain ⟨p, l, c, h, hk⟩ := hK; exact ⟨_, hk, fun _ h' => ⟨p, l, c, he.cell h, h'⟩⟩
  case map => obtain ⟨n, h, hk⟩ := hK; exact ⟨_, hk, fun _ h' => ⟨n, he.cell h, h'⟩⟩
  case agg => obtain ⟨n, h0, h, hk⟩ := hK; exact ⟨_, hk, fun _ h' => ⟨n, h0, he.cell h, h'⟩⟩
  case raw => obtain ⟨n, h, hk⟩ := hK; exact ⟨_, hk, fun _ h' => ⟨n, he.cell h, h'⟩⟩
  case addr => obtain ⟨n, h, hk⟩ := hK; exact ⟨_, hk, fun _ h' => ⟨n, he.cell h, h'⟩⟩
  case blk => obtain ⟨n, h, hk⟩ := hK; exact ⟨_, hk, fun _ h' => ⟨n, he.cell h, h'⟩⟩

theorem read_one {qs : List Nat} {op : Op} {ty : TypeId} {ρ : Env} {h : Heap} {K : Value → Heap → Prop} (hp : readB op = true) (hh : opVc P qs op ty ρ h K) :
    ∃ v, K v h ∧ ∀ (h' : Heap) (K' : Value → Heap → Prop), Ext h h' → K' v h' → opVc P qs op ty ρ h' K' := by
  cases op <;> simp only [readB, Bool.false_eq_true] at hp <;> simp only [opVc] at hh ⊢
  case load t x =>
    obtain ⟨v, hv, hh⟩ := withV_elim hh
    rw [hv]
    simp only [withV] at hh ⊢
    split at hh
    · split at hh
      · obtain ⟨cs, h1, h2⟩ := hh
        exact ⟨_, h2, fun h' K' he hk => ⟨cs, he.row h1, hk⟩⟩
      · rename_i a _ _
        have val : ∃ v, K v h ∧ ∀ (h' : Heap), Ext h h' → ∀ K' : Value → Prop, K' v → exTy (tyOf P t) fun x => cell h' a = some x ∧ K' x := by
          obtain ⟨v, h1, _⟩ := exTy_cell (Ext.refl h) (K := fun x => K x h) hh
          have hu : ∃ v, K v h ∧ (exTy (tyOf P t) fun x => cell h a = some x ∧ x = v) := by
            obtain ⟨v, h1, h2⟩ := exTy_cell (Ext.refl h) (K := fun x => K x h) hh
            exact ⟨v, h1, h2 (fun x => x = v) rfl⟩
          obtain ⟨v, h1, h2⟩ := hu
          refine ⟨v, h1, fun h' he K' hk => ?_⟩
          obtain ⟨u, h3, h4⟩ := exTy_cell he (K := fun x => x = v) h2
          exact h4 K' (by rw [h3]; exact hk)
        obtain ⟨v, h1, h2⟩ := val
        exact ⟨v, h1, fun h' K' he hk => h2 h' he (fun x => K' x h') hk⟩
      · exact hh.elim
    · exact hh.elim

theorem grow_one {qs : List Nat} {op : Op} {ty : TypeId} {ρ : Env} {h : Heap} {K : Value → Heap → Prop} (hp : growB P qs op = true) (hh : opVc P qs op ty ρ h K) :
    opVc P qs op ty ρ h fun v h' => K v h' ∧ Ext h h' := by
  unfold growB at hp
  simp only [Bool.or_eq_true] at hp
  rcases hp with (hp | hp) | hp
  · obtain ⟨v, h1, h2⟩ := pure_one hp hh
    exact h2 h _ ⟨h1, Ext.refl h⟩
  · obtain ⟨v, h1, h2⟩ := read_one hp hh
    exact h2 h _ (Ext.refl h) ⟨h1, Ext.refl h⟩
  · have blk : ∀ {t : TypeId} {cells : Array Value} {F : Nat → Heap → Prop}, newBlk h t cells F → newBlk h t cells fun b h' => F b h' ∧ Ext h h' :=
      fun hF b h' e1 e2 => ⟨hF b h' e1 e2, by rw [e2]; exact Ext.push h _⟩
    cases op <;> first | exact absurd hp Bool.false_ne_true | simp only [opVc] at hh ⊢
    case alloc =>
      split at hh
      · exact blk hh
      · exact hh
    case box => exact withV_mono (fun _ h => blk h) hh
    case buildSlice =>
      split at hh
      · unfold buildSliceVc at *
        split at hh
        · split at hh
          · split at hh
            · exact partsVc_mono (fun _ h => blk h) hh
            · split at hh
              · exact blk hh
              · exact hh
          · exact hh
        · exact hh
      · exact hh
    case makeSlice =>
      refine withI_mono (fun _ hh => withI_mono (fun _ hh => ?_) hh) hh
      split at hh
      · split at hh
        · exact ⟨hh.1, hh.2.1, hh.2.2.1, hh.2.2.2.1, blk hh.2.2.2.2⟩
        · exact hh
      · exact hh
    case call c =>
      obtain ⟨callee, cargs, cts⟩ := c
      cases callee with
      | invoke r m => simp at hp
      | builtin b => simp at hp
      | value f =>
        cases f with
        | tmp t => simp at hp
        | const v => simp at hp
        | global g => simp at hp
        | func f =>
          split at hh
          · simp only [opv, withV] at hh ⊢
            unfold callVc at hh ⊢
            have hp : inL qs f = true := hp
            rw [hp] at hh ⊢
            split at hh
            · exact hh.mono fun v h' hb => ⟨hb.1, back_mono (fun v hk => ⟨hk, hb.1⟩) hb.2⟩
            · split at hh
              · unfold externVc at hh ⊢
                split at hh
                · obtain ⟨xs, ys, h1, h2, h3⟩ := hh
                  exact ⟨xs, ys, h1, h2, h3, Ext.refl _⟩
                · exact hh
              · exact hh
          · exact hh
end
end Go.Vc
