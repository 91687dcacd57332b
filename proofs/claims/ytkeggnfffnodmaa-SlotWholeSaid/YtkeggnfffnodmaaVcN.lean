/- The calculus for code and for functions; it is sound. -/
import Derived.Test.YtkeggnfffnodmaaVcM
set_option linter.unusedVariables false
namespace Go.Vc

def Ty.den : Ty → Type
  | .int _ => Int
  | .bool => Bool
  | .str => ByteArray
  | .ptr => Option Addr
  | .slice => Option Addr × Nat × Nat
  | .map => Option Nat
  | .agg _ => Array Value
  | .raw => Value
  | .addr => Addr
  | .blk => Nat
def Ty.enc : (T : Ty) → T.den → Value
  | .int k, n => .int k n
  | .bool, b => .bool b
  | .str, s => .string s
  | .ptr, p => .pointer p
  | .slice, p => .slice p.1 p.2.1 p.2.2
  | .map, r => .map r
  | .agg _, cs => .agg cs
  | .raw, v => v
  | .addr, a => .pointer (some a)
  | .blk, b => .pointer (some ⟨b, 0, none⟩)
def blkOf : Option Addr → Option Nat
  | some ⟨b, 0, none⟩ => some b
  | _ => none
theorem blkOf_some {p : Option Addr} {b : Nat} (h : blkOf p = some b) : p = some ⟨b, 0, none⟩ := by
  unfold blkOf at h
  split at h
  · cases h; rfl
  · cases h
def decInt (k : IntKind) : Value → Option (Int)
  | .int k' n => if k = k' then some n else none
  | _ => none
theorem decInt_some {k : IntKind} {v : Value} {b : Int} (h : decInt k v = some b) : v = .int k b := by
  unfold decInt at h
  split at h
  · split at h
    · rename_i hk; subst hk; cases h; rfl
    · cases h
  · cases h
def decBool : Value → Option (Bool)
  | .bool b => some b
  | _ => none
theorem decBool_some {v : Value} {b : Bool} (h : decBool v = some b) : v = .bool b := by
  unfold decBool at h
  split at h
  · cases h; rfl
  · cases h
def decStr : Value → Option (ByteArray)
  | .string s => some s
  | _ => none
theorem decStr_some {v : Value} {b : ByteArray} (h : decStr v = some b) : v = .string b := by
  unfold decStr at h
  split at h
  · cases h; rfl
  · cases h
def decPtr : Value → Option (Option Addr)
  | .pointer p => some p
  | _ => none
theorem decPtr_some {v : Value} {b : Option Addr} (h : decPtr v = some b) : v = .pointer b := by
  unfold decPtr at h
  split at h
  · cases h; rfl
  · cases h
def decSlice : Value → Option (Option Addr × Nat × Nat)
  | .slice p l c => some (p, l, c)
  | _ => none
theorem decSlice_some {v : Value} {b : Option Addr × Nat × Nat} (h : decSlice v = some b) : v = .slice b.1 b.2.1 b.2.2 := by
  unfold decSlice at h
  split at h
  · cases h; rfl
  · cases h
def decMap : Value → Option (Option Nat)
  | .map r => some r
  | _ => none
theorem decMap_some {v : Value} {b : Option Nat} (h : decMap v = some b) : v = .map b := by
  unfold decMap at h
  split at h
  · cases h; rfl
  · cases h
def decAgg : Value → Option (Array Value)
  | .agg cs => some cs
  | _ => none
theorem decAgg_some {v : Value} {b : Array Value} (h : decAgg v = some b) : v = .agg b := by
  unfold decAgg at h
  split at h
  · cases h; rfl
  · cases h
def decAddr : Value → Option (Addr)
  | .pointer p => p
  | _ => none
theorem decAddr_some {v : Value} {b : Addr} (h : decAddr v = some b) : v = .pointer (some b) := by
  unfold decAddr at h
  split at h
  · subst h; rfl
  · cases h
def decBlk : Value → Option (Nat)
  | .pointer p => blkOf p
  | _ => none
theorem decBlk_some {v : Value} {b : Nat} (h : decBlk v = some b) : v = .pointer (some ⟨b, 0, none⟩) := by
  unfold decBlk at h
  split at h
  · have := blkOf_some h; subst this; rfl
  · cases h
def Ty.dec (T : Ty) (v : Value) : Option T.den :=
  match T with
  | .int k => decInt k v
  | .bool => decBool v
  | .str => decStr v
  | .ptr => decPtr v
  | .slice => decSlice v
  | .map => decMap v
  | .agg _ => decAgg v
  | .raw => some v
  | .addr => decAddr v
  | .blk => decBlk v
abbrev Sig := List (Nat × Ty)
def Sig.den : Sig → Type
  | [] => Unit
  | [(_, T)] => T.den
  | (_, T) :: y :: r => T.den × Sig.den (y :: r)
def Sig.enc : (S : Sig) → S.den → Env
  | [], _ => []
  | [(t, T)], x => [(t, T.enc x)]
  | (t, T) :: y :: r, x => (t, T.enc x.1) :: Sig.enc (y :: r) x.2
def Sig.dec : (S : Sig) → Env → Option S.den
  | [], _ => some ()
  | [(t, T)], ρ => match ρ.get? t with | some v => T.dec v | none => none
  | (t, T) :: y :: r, ρ => match ρ.get? t with
    | some v => (match T.dec v, Sig.dec (y :: r) ρ with | some x, some xs => some (x, xs) | _, _ => none)
    | none => none
/-- What is said of a function's code from outside: which calls leave the heap alone, which slots a loop turns, where ways meet, how regions that draw are gone through. -/
structure Ann where
  qs : List Nat := []
  loops : List (Nat × Sig) := []
  cuts : List (Nat × Sig) := []
  plans : List (Nat × Plan) := []
def find {α : Type} : List (Nat × α) → Nat → Option α
  | [], _ => none
  | (i, x) :: r, n => match Nat.beq i n with | true => some x | false => find r n
def first : Code → Nat
  | .region id _ _ => id
  | .seq a _ => first a
  | .block _ c => first c
  | .loop c => first c
  | .scope c => first c
  | _ => 1000000
def written : Code → List Nat
  | .region _ ops _ => ops.toList.filterMap (·.dst)
  | .seq a b => written a ++ written b
  | .cond _ a b => written a ++ written b
  | .block _ c => written c
  | .loop c => written c
  | .scope c => written c
  | _ => []
def keep (W : List Nat) : Env → Env
  | [] => []
  | (s, v) :: r => match inL W s with | true => keep W r | false => (s, v) :: keep W r
def sigIn (W : List Nat) : Sig → Bool
  | [] => true
  | (t, _) :: r => inL W t && sigIn W r
def known (ρ : Env) (x : Operand) (t : Bool) : Env := match x with | .tmp s => (s, .bool t) :: ρ | _ => ρ
def meet (S : Sig) (J : S.den → Heap → Prop) (ρ : Env) (h : Heap) : Prop := match S.dec ρ with | some s => J s h | none => False

def vc (P : Program) (A : Ann) (N : Nat) : Code → Env → Heap → (Exit → Env → Heap → Prop) → Prop
  | .skip, ρ, h, K => K .normal ρ h
  | .label _, ρ, h, K => K .normal ρ h
  | .region id ops d, ρ, h, K => (match d with
    | false => seqVc P A.qs N ops.toList ops.toList ρ h (K .normal)
    | true => match find A.plans id with
      | some p => (match P.follows .mixedOrders && planOk P A.qs ops p (Array.replicate ops.size false) none with
        | true => planVc P A.qs N ops.toList (atEnd ρ ops.toList (K .normal)) p ρ h
        | false => False)
      | none => False)
  | .seq a b, ρ, h, K => (match find A.cuts (first b) with
    | none => vc P A N a ρ h fun x ρ h => (match x with | .normal => vc P A N b ρ h K | x => K x ρ h)
    | some S => (match sigIn (written a) S with
      | true => ∃ J : S.den → Heap → Prop, (vc P A N a ρ h fun x ρ h => (match x with | .normal => meet S J ρ h | x => K x ρ h)) ∧
        ∀ s h, J s h → vc P A N b (S.enc s ++ keep (written a) ρ) h K
      | false => False))
  | .cond c a b, ρ, h, K => withV (opv ρ c) fun v => (match v with
    | .bool t => br t (vc P A N a (known ρ c true) h K) (vc P A N b (known ρ c false) h K)
    | _ => False)
  | .block id c, ρ, h, K => vc P A N c ρ h fun x ρ h => (match x with | .exit i => (match Nat.beq i id with | true => K .normal ρ h | false => K (.exit i) ρ h) | x => K x ρ h)
  | .loop c, ρ, h, K => (match find A.loops (first c) with
    | some S => (match sigIn (written c) S with
      | true => ∃ (I : S.den → Heap → Prop) (μ : S.den → Heap → Nat), meet S I ρ h ∧
        ∀ s h, I s h → vc P A N c (S.enc s ++ keep (written c) ρ) h fun x ρ' h' => (match x with | .normal => meet S (fun s' h' => I s' h' ∧ μ s' h' < μ s h) ρ' h' | x => K x ρ' h')
      | false => False)
    | none => False)
  | .exit id, ρ, h, K => K (.exit id) ρ h
  | .ret, ρ, h, K => K .ret ρ h
  | _, _, _, _ => False

def resVc (P : Program) (ρ : Env) (h : Heap) : List ResultVar → (List Value → Prop) → Prop
  | [], K => K []
  | .tmp t :: r, K => withV (ρ.get? t) fun v => resVc P ρ h r fun vs => K (v :: vs)
  | .cell t T :: r, K => withV (ρ.get? t) fun p => (match p with
    | .pointer (some a) => (match aggB P T with
      | some true => ∃ cs, row h a (szOf P T) = some cs ∧ resVc P ρ h r fun vs => K (.agg cs :: vs)
      | some false => exTy (tyOf P T) fun x => cell h a = some x ∧ resVc P ρ h r fun vs => K (x :: vs)
      | none => False)
    | _ => False)
def oneOrMany : List Value → Value
  | [v] => v
  | vs => .tuple vs.toArray
def argEnv : Nat → List Value → Env
  | _, [] => []
  | i, v :: r => (i, v) :: argEnv (i + 1) r
def retK (P : Program) (rs : List ResultVar) (R : Value → Heap → Prop) (x : Exit) (ρ : Env) (h : Heap) : Prop :=
  match x with
  | .normal => resVc P ρ h rs fun vs => R (oneOrMany vs) h
  | .ret => resVc P ρ h rs fun vs => R (oneOrMany vs) h
  | _ => False
def fnVc (P : Program) (A : Ann) (f : FuncId) (args : List Value) (h : Heap) (R : Value → Heap → Prop) : Prop :=
  match P.funcs[f]? with
  | some fn => (match fn.body, Nat.ble args.length fn.ntmps with
    | some c, true => vc P A fn.ntmps c (argEnv 0 args) h (retK P fn.results.toList R)
    | _, _ => False)
  | none => False

section
variable {P : Program} {A : Ann} {N : Nat}

theorem inL_iff {l : List Nat} {n : Nat} : inL l n = true ↔ n ∈ l := by
  induction l with
  | nil => simp [inL]
  | cons x r ih =>
    simp only [inL, Bool.or_eq_true, ih, List.mem_cons]
    constructor
    · rintro (h | h)
      · exact .inl (Nat.eq_of_beq_eq_true h).symm
      · exact .inr h
    · rintro (h | h)
      · subst h; exact .inl (Nat.beq_refl _)
      · exact .inr h

theorem get?_append (ρ ρ' : Env) (t : Nat) : Env.get? (ρ ++ ρ') t = match ρ.get? t with | some v => some v | none => ρ'.get? t := by
  induction ρ with
  | nil => rfl
  | cons x r ih =>
    obtain ⟨s, v⟩ := x
    rw [List.cons_append, get?_cons, get?_cons, ih]
    split <;> rfl

theorem get?_keep {W : List Nat} {t : Nat} (ht : t ∉ W) : ∀ ρ : Env, (keep W ρ).get? t = ρ.get? t
  | [] => rfl
  | (s, v) :: r => by
    simp only [keep]
    split
    · rename_i hs
      have hs := inL_iff.1 hs
      rw [get?_keep ht r, get?_cons, if_neg (fun e => ht (by rw [← e]; exact hs))]
    · rw [get?_cons, get?_cons, get?_keep ht r]

theorem get?_keep_in {W : List Nat} {t : Nat} (ht : t ∈ W) : ∀ ρ : Env, (keep W ρ).get? t = none
  | [] => rfl
  | (s, v) :: r => by
    simp only [keep]
    split
    · exact get?_keep_in ht r
    · rename_i hs
      rw [get?_cons, if_neg (fun h => by subst h; rw [inL_iff.2 ht] at hs; cases hs)]
      exact get?_keep_in ht r

theorem enc_get? : ∀ (S : Sig) (s : S.den) (t : Nat), (∀ T, (t, T) ∉ S) → (S.enc s).get? t = none
  | [], _, _, _ => rfl
  | [(u, T)], s, t, h => by
    simp only [Sig.enc, get?_cons]
    rw [if_neg (fun e => h T (by simp [e]))]; rfl
  | (u, T) :: y :: r, s, t, h => by
    simp only [Sig.enc, get?_cons]
    rw [if_neg (fun e => h T (by simp [e]))]
    exact enc_get? (y :: r) s.2 t (fun T' hT => h T' (by simp at hT ⊢; exact .inr hT))

theorem sigIn_mem {W : List Nat} : ∀ {S : Sig}, sigIn W S = true → ∀ t T, (t, T) ∈ S → t ∈ W
  | [], _, _, _, h => by cases h
  | (u, U) :: r, hs, t, T, h => by
    simp only [sigIn, Bool.and_eq_true] at hs
    rcases List.mem_cons.1 h with h | h
    · cases h; exact inL_iff.1 hs.1
    · exact sigIn_mem hs.2 t T h

theorem dec_enc {T : Ty} {v : Value} {x : T.den} (h : T.dec v = some x) : T.enc x = v := by
  cases T with
  | int k => exact (decInt_some (b := x) h).symm
  | bool => exact (decBool_some (b := x) h).symm
  | str => exact (decStr_some (b := x) h).symm
  | ptr => exact (decPtr_some (b := x) h).symm
  | slice => exact (decSlice_some (b := x) h).symm
  | map => exact (decMap_some (b := x) h).symm
  | agg n => exact (decAgg_some (b := x) h).symm
  | raw => exact (Option.some.inj (h : some v = some x)).symm
  | addr => exact (decAddr_some (b := x) h).symm
  | blk => exact (decBlk_some (b := x) h).symm

/-- The frame at a meeting place. -/
theorem sim_meet {W : List Nat} {a : Act} {ρ ρ' : Env} (hk : ∀ t, t ∉ W → ρ'.get? t = ρ.get? t) (hs : SimN N a ρ') : ∀ {S : Sig} {s : S.den}, S.dec ρ' = some s → SimN N a (S.enc s ++ keep W ρ) := by
  intro S s hd
  refine ⟨hs.1, hs.2.1, fun t v ht => ?_⟩
  rw [get?_append] at ht
  have key : ∀ (S : Sig) (s : S.den), S.dec ρ' = some s → ∀ t v, (S.enc s).get? t = some v → ρ'.get? t = some v := by
    intro S
    induction S with
    | nil => intro s _ t v h; cases h
    | cons x r ih =>
      obtain ⟨u, T⟩ := x
      cases r with
      | nil =>
        intro s hd t v h
        simp only [Sig.enc, get?_cons] at h
        simp only [Sig.dec] at hd
        split at h
        · rename_i hut; subst hut
          split at hd
          · rename_i w hw
            have := dec_enc hd
            rw [this] at h
            rw [hw]; exact h
          · cases hd
        · cases h
      | cons y r =>
        intro s hd t v h
        simp only [Sig.enc, get?_cons] at h
        simp only [Sig.dec] at hd
        split at hd
        · rename_i w hw
          split at hd
          · rename_i x xs hx hxs
            cases hd
            split at h
            · rename_i hut; subst hut
              have := dec_enc hx
              rw [this] at h
              rw [hw]; exact h
            · exact ih xs hxs t v h
          · cases hd
        · cases hd
  split at ht
  · rename_i u hu
    cases ht
    exact hs.2.2 t _ (key S s hd t _ hu)
  · by_cases hW : t ∈ W
    · rw [get?_keep_in hW] at ht; cases ht
    · rw [get?_keep hW, ← hk t hW] at ht
      exact hs.2.2 t v ht

/- ### What code does not write stays -/
def Keeps (W : List Nat) (ρ ρ' : Env) : Prop := ∀ t, t ∉ W → ρ'.get? t = ρ.get? t
theorem Keeps.refl (W : List Nat) (ρ : Env) : Keeps W ρ ρ := fun _ _ => rfl
theorem Keeps.trans {W W' W'' : List Nat} {ρ ρ' ρ'' : Env} (h : Keeps W ρ ρ') (h' : Keeps W' ρ' ρ'') (h1 : W ⊆ W'') (h2 : W' ⊆ W'') : Keeps W'' ρ ρ'' :=
  fun t ht => (h' t (fun h => ht (h2 h))).trans (h t (fun h => ht (h1 h)))
theorem Keeps.mono {W W' : List Nat} {ρ ρ' : Env} (h : Keeps W ρ ρ') (h1 : W ⊆ W') : Keeps W' ρ ρ' := fun t ht => h t (fun h => ht (h1 h))

theorem Keeps.put {W : List Nat} {ρ : Env} {d : Option Nat} {v : Value} (h : ∀ t, d = some t → t ∈ W) : Keeps W ρ (ρ.put d v) :=
  fun t ht => get?_put (fun e => ht (h t e))

theorem step_keeps {qs : List Nat} {L : List Oper} {o : Oper} {ρ : Env} {h : Heap} {K : Env → Heap → Prop} {W : List Nat} (hW : ∀ t, o.dst = some t → t ∈ W) (hs : stepVc P qs N L o ρ h K) :
    stepVc P qs N L o ρ h fun ρ' h' => K ρ' h' ∧ Keeps W ρ ρ' := by
  unfold stepVc at *
  split
  · rename_i hd; simp only [hd] at hs
  · rename_i hd
    simp only [hd] at hs
    split
    · rename_i hg
      simp only [hg] at hs
      exact opVc_mono (fun v h' hk => ⟨hk, Keeps.put hW⟩) hs
    · rename_i j want hg
      simp only [hg] at hs
      split
      · rename_i hj; simp only [hj] at hs
      · rename_i s hj
        simp only [hj] at hs
        split
        · rename_i b hb
          simp only [hb] at hs
          have hsame : Keeps W ρ ((s, .bool b) :: ρ) := fun t _ => by
            rw [get?_cons]; split
            · rename_i hst; subst hst; exact hb.symm
            · rfl
          have go : ∀ t, t = b → goVc P qs o want t ((s, .bool t) :: ρ) h K → goVc P qs o want t ((s, .bool t) :: ρ) h fun ρ' h' => K ρ' h' ∧ Keeps W ρ ρ' := by
            intro t htb hg
            subst htb
            unfold goVc at *
            split
            · rename_i hw; simp only [hw] at hg
              exact opVc_mono (fun v h' hk => ⟨hk, hsame.trans (Keeps.put hW) (fun _ h => h) (fun _ h => h)⟩) hg
            · rename_i hw; simp only [hw] at hg
              exact ⟨hg, hsame.trans (Keeps.put hW) (fun _ h => h) (fun _ h => h)⟩
          cases b
          · exact go false rfl hs
          · exact go true rfl hs
        · rename_i vs hb
          simp only [hb] at hs
          exact ⟨hs, Keeps.put hW⟩
        · rename_i h1 h2
          split at hs
          · rename_i b hb; exact (h1 b hb).elim
          · rename_i vs hb; exact (h2 vs hb).elim
          · exact hs

theorem step_mono {qs : List Nat} {L : List Oper} {o : Oper} {ρ : Env} {h : Heap} {K K' : Env → Heap → Prop} (hk : ∀ ρ h, K ρ h → K' ρ h) (hs : stepVc P qs N L o ρ h K) : stepVc P qs N L o ρ h K' := by
  unfold stepVc at *
  split
  · rename_i hd; simp only [hd] at hs
  · rename_i hd
    simp only [hd] at hs
    split
    · rename_i hg
      simp only [hg] at hs
      exact opVc_mono (fun v h' h => hk _ _ h) hs
    · rename_i j want hg
      simp only [hg] at hs
      split
      · rename_i hj; simp only [hj] at hs
      · rename_i s hj
        simp only [hj] at hs
        split
        · rename_i b hb
          simp only [hb] at hs
          have go : ∀ t, goVc P qs o want t ((s, .bool t) :: ρ) h K → goVc P qs o want t ((s, .bool t) :: ρ) h K' := by
            intro t hg
            unfold goVc at *
            split
            · rename_i hw; simp only [hw] at hg
              exact opVc_mono (fun v h' h => hk _ _ h) hg
            · rename_i hw; simp only [hw] at hg
              exact hk _ _ hg
          exact br_mono (go _) (go _) hs
        · rename_i vs hb
          simp only [hb] at hs
          exact hk _ _ hs
        · rename_i h1 h2
          split at hs
          · rename_i b hb; exact (h1 b hb).elim
          · rename_i vs hb; exact (h2 vs hb).elim
          · exact hs

theorem seq_mono {qs : List Nat} {L : List Oper} {K K' : Env → Heap → Prop} (hk : ∀ ρ h, K ρ h → K' ρ h) : ∀ (l : List Oper) (ρ : Env) (h : Heap), seqVc P qs N L l ρ h K → seqVc P qs N L l ρ h K'
  | [], _, _, h => hk _ _ h
  | o :: r, _, _, h => step_mono (fun ρ h hh => seq_mono hk r ρ h hh) h

theorem seq_keeps {qs : List Nat} {L : List Oper} {K : Env → Heap → Prop} {W : List Nat} : ∀ (l : List Oper) (ρ : Env) (h : Heap), (∀ o ∈ l, ∀ t, o.dst = some t → t ∈ W) → seqVc P qs N L l ρ h K → seqVc P qs N L l ρ h fun ρ' h' => K ρ' h' ∧ Keeps W ρ ρ'
  | [], ρ, _, _, h => ⟨h, Keeps.refl W ρ⟩
  | o :: r, ρ, h, hW, hs => by
    refine step_mono (fun ρ' h' hh => ?_) (step_keeps (W := W) (hW o (by simp)) hs)
    exact seq_mono (fun ρ'' h'' hk => ⟨hk.1, hh.2.trans hk.2 (fun _ h => h) (fun _ h => h)⟩) r ρ' h' (seq_keeps r ρ' h' (fun o ho => hW o (by simp [ho])) hh.1)

theorem plan_mono {qs : List Nat} {L : List Oper} {K K' : Env → Heap → Prop} (hk : ∀ ρ h, K ρ h → K' ρ h) : ∀ (p : Plan) (ρ : Env) (h : Heap), planVc P qs N L K p ρ h → planVc P qs N L K' p ρ h
  | .done, _, _, h => hk _ _ h
  | .stop, _, _, _ => trivial
  | .take i p, ρ, h, hh => by
    unfold planVc at *
    split
    · rename_i o ho; simp only [ho] at hh
      exact step_mono (fun ρ h hh => plan_mono hk p ρ h hh) hh
    · rename_i ho; simp only [ho] at hh
  | .alt i p q, ρ, h, hh => by
    rw [plan_alt] at *
    refine ⟨?_, plan_mono hk q _ _ hh.2⟩
    have hh := hh.1
    split
    · rename_i o ho; simp only [ho] at hh
      exact step_mono (fun ρ h hh => plan_mono hk p ρ h hh) hh
    · rename_i ho; simp only [ho] at hh

theorem canon_keeps {W : List Nat} : ∀ (L : List Oper) (ρ0 ρ ρ' : Env), (∀ o ∈ L, ∀ t, o.dst = some t → t ∈ W) → canon ρ0 L ρ = some ρ' → Keeps W ρ0 ρ'
  | [], ρ0, ρ, ρ', _, h => by simp only [canon, Option.some.injEq] at h; subst h; exact Keeps.refl _ _
  | o :: r, ρ0, ρ, ρ', hW, h => by
    unfold canon at h
    split at h
    · exact canon_keeps r ρ0 ρ ρ' (fun o ho => hW o (by simp [ho])) h
    · rename_i d hd
      split at h
      · rename_i v hv
        exact (Keeps.put (d := some d) (v := v) (fun t ht => hW o (by simp) t (by rw [hd]; exact ht))).trans (canon_keeps r _ ρ ρ' (fun o ho => hW o (by simp [ho])) h) (fun _ h => h) (fun _ h => h)
      · cases h
end
end Go.Vc
