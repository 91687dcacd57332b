/- Regions that draw their order: a plan of which operation is taken when serves every order. -/
import Derived.Test.YtkeggnfffnodmaaVcJ
set_option linter.unusedVariables false
namespace Go.Vc

/-- How a region is gone through. 'take': this one may be taken first. 'alt': each of those that may come next. -/
inductive Plan where
  | done | stop
  | take (i : Nat) (p : Plan)
  | alt (i : Nat) (p q : Plan)

/-- At the region's end: each slot that it writes, in the order of the text. -/
def canon (ρ0 : Env) : List Oper → Env → Option Env
  | [], _ => some ρ0
  | o :: r, ρ => match o.dst with
    | none => canon ρ0 r ρ
    | some d => match ρ.get? d with
      | some v => canon ((d, v) :: ρ0) r ρ
      | none => none
def atEnd (ρ0 : Env) (L : List Oper) (K : Env → Heap → Prop) (ρ : Env) (h : Heap) : Prop := match canon ρ0 L ρ with | some ρ' => K ρ' h | none => False

def planVc (P : Program) (qs : List Nat) (N : Nat) (L : List Oper) (K : Env → Heap → Prop) : Plan → Env → Heap → Prop
  | .done, ρ, h => K ρ h
  | .stop, _, _ => True
  | .take i p, ρ, h => match getAt L i with | some o => stepVc P qs N L o ρ h (planVc P qs N L K p) | none => False
  | .alt i p .stop, ρ, h => (match getAt L i with | some o => stepVc P qs N L o ρ h (planVc P qs N L K p) | none => False)
  | .alt i p q, ρ, h => (match getAt L i with | some o => stepVc P qs N L o ρ h (planVc P qs N L K p) | none => False) ∧ planVc P qs N L K q ρ h

theorem plan_alt {P : Program} {qs : List Nat} {N : Nat} {L : List Oper} {K : Env → Heap → Prop} {i : Nat} {p q : Plan} {ρ : Env} {h : Heap} :
    planVc P qs N L K (.alt i p q) ρ h ↔ (match getAt L i with | some o => stepVc P qs N L o ρ h (planVc P qs N L K p) | none => False) ∧ planVc P qs N L K q ρ h := by
  cases q <;> simp [planVc]

/-- Those that need not wait for operation i: nothing among 'm' waits for it, and m is shut under 'all that it waits for is in m or listed'. -/
def shutB (ops : Array Oper) (listed m : Array Bool) (i : Nat) : Bool :=
  !(m.getD i true) && (List.range ops.size).all fun j => j == i || m.getD j false ||
    !((ops[j]?).map (·.after.all fun e => !Region.binds .any e || (e.on != i && (listed.getD e.on false || m.getD e.on false)))).getD false
/-- The greatest such set is found by rounds. -/
def waitsNot (ops : Array Oper) (listed : Array Bool) (i : Nat) : Nat → Array Bool → Array Bool
  | 0, m => m
  | n + 1, m => waitsNot ops listed i n ((List.range ops.size).foldl (fun m j => if j != i && ((ops[j]?).map (·.after.all fun e => !Region.binds .any e || (e.on != i && (listed.getD e.on false || m.getD e.on false)))).getD false then m.setIfInBounds j true else m) m)
def freeRead (P : Program) (qs : List Nat) (ops : Array Oper) (listed : Array Bool) (i : Nat) : Bool :=
  let m := waitsNot ops listed i 2 (Array.replicate ops.size false)
  shutB ops listed m i && (List.range ops.size).all fun j => listed.getD j false || !(m.getD j false) || ((ops[j]?).map fun o => growB P qs o.op).getD false
def mayFirst (P : Program) (qs : List Nat) (ops : Array Oper) (listed : Array Bool) (i : Nat) : Bool :=
  Region.free .any ops listed i && (match ops[i]? with
    | some o => pureB P o.op || (readB o.op && freeRead P qs ops listed i)
    | none => false)

def planOk (P : Program) (qs : List Nat) (ops : Array Oper) : Plan → Array Bool → Option (List Nat) → Bool
  | .done, listed, none => (Region.ready .any ops listed).isEmpty
  | .take i p, listed, none => (Region.ready .any ops listed).contains i && mayFirst P qs ops listed i && planOk P qs ops p (listed.setIfInBounds i true) none
  | .alt i p q, listed, none => (Region.ready .any ops listed).contains i && planOk P qs ops p (listed.setIfInBounds i true) none && planOk P qs ops q listed (some ((Region.ready .any ops listed).erase i))
  | .alt i p q, listed, some r => planOk P qs ops p (listed.setIfInBounds i true) none && planOk P qs ops q listed (some (r.erase i))
  | .stop, _, some r => r.isEmpty
  | _, _, _ => false

section
variable {P : Program} {qs : List Nat} {N : Nat} {L : List Oper}

def EnvEq (ρ ρ' : Env) : Prop := ∀ t, ρ.get? t = ρ'.get? t

theorem canon_eq {ρ0 : Env} : ∀ {L : List Oper} {ρ0 ρ ρ' : Env}, EnvEq ρ ρ' → canon ρ0 L ρ = canon ρ0 L ρ'
  | [], _, _, _, _ => rfl
  | o :: r, ρ0, ρ, ρ', h => by
    unfold canon
    split
    · exact canon_eq (ρ0 := ρ0) h
    · rename_i d hd
      rw [h d]
      split
      · exact canon_eq (ρ0 := ρ0) h
      · rfl

/-- What is asked at the end looks at the slots alone. -/
def Even (K : Env → Heap → Prop) : Prop := ∀ ρ ρ' h, EnvEq ρ ρ' → K ρ h → K ρ' h
theorem even_atEnd (ρ0 : Env) (L : List Oper) (K : Env → Heap → Prop) : Even (atEnd ρ0 L K) := by
  intro ρ ρ' h he hk
  unfold atEnd at *
  rw [← canon_eq (ρ0 := ρ0) he]
  exact hk

theorem opvs_congr {ρ ρ' : Env} : ∀ {xs : List Operand}, (∀ x ∈ xs, opv ρ x = opv ρ' x) → opvs ρ xs = opvs ρ' xs
  | [], _ => rfl
  | x :: r, h => by simp only [opvs, h x (by simp), opvs_congr (xs := r) (fun y hy => h y (by simp [hy]))]
theorem pairs_congr {ρ ρ' : Env} : ∀ {xs : List (Nat × Operand)}, (∀ x ∈ xs, opv ρ x.2 = opv ρ' x.2) → pairs ρ xs = pairs ρ' xs
  | [], _ => rfl
  | (i, x) :: r, h => by simp only [pairs, h (i, x) (by simp), pairs_congr (xs := r) (fun y hy => h y (by simp [hy]))]

theorem opVc_congr {op : Op} {ty : TypeId} {ρ ρ' : Env} {h : Heap} {K : Value → Heap → Prop} (hx : ∀ x ∈ op.operands, opv ρ x = opv ρ' x) : opVc P qs op ty ρ h K = opVc P qs op ty ρ' h K := by
  cases op <;> simp only [opVc]
  case call c =>
    have h1 : opvs ρ c.args.toList = opvs ρ' c.args.toList := opvs_congr fun x hx' => hx x (by simp [Op.operands, Call.operands]; right; exact Array.mem_toList_iff.1 hx')
    rw [h1]
    split
    · split
      · rename_i f hf
        rw [hx f (by simp [Op.operands, Call.operands, hf])]
      · rfl
      · rfl
    · rfl
  case slice t x lo hi mx =>
    rw [hx x (by simp [Op.operands])]
    have h1 : opvo ρ lo = opvo ρ' lo := by cases lo with | none => rfl | some y => simp only [opvo]; rw [hx y (by simp [Op.operands])]
    have h2 : opvo ρ hi = opvo ρ' hi := by cases hi with | none => rfl | some y => simp only [opvo]; rw [hx y (by simp [Op.operands])]
    have h3 : opvo ρ mx = opvo ρ' mx := by cases mx with | none => rfl | some y => simp only [opvo]; rw [hx y (by simp [Op.operands])]
    rw [h1, h2, h3]
  case build t ps => rw [pairs_congr (xs := ps.toList) fun x hx' => hx x.2 (by simp [Op.operands]; exact ⟨x.1, Array.mem_toList_iff.1 hx'⟩)]
  case buildSlice t n ps => rw [pairs_congr (xs := ps.toList) fun x hx' => hx x.2 (by simp [Op.operands]; exact ⟨x.1, Array.mem_toList_iff.1 hx'⟩)]
  case makeFunc fn first cap =>
    rw [opvs_congr (xs := first.toList) fun x hx' => hx x (by simp [Op.operands]; exact .inl (Array.mem_toList_iff.1 hx')), opvs_congr (xs := cap.toList) fun x hx' => hx x (by simp [Op.operands]; exact .inr (Array.mem_toList_iff.1 hx'))]
  case pick c a b => rw [hx c (by simp [Op.operands]), hx a (by simp [Op.operands]), hx b (by simp [Op.operands])]
  all_goals first
    | rfl
    | (rename_i x y _; rw [hx x (by simp [Op.operands]), hx y (by simp [Op.operands])])
    | (rename_i x y; rw [hx x (by simp [Op.operands]), hx y (by simp [Op.operands])])
    | (rename_i x _; rw [hx x (by simp [Op.operands])])
    | (rename_i x; rw [hx x (by simp [Op.operands])])
end
end Go.Vc
