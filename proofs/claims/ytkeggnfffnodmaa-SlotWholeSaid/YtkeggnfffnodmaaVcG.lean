/- The calculus of XVcA is sound: any operation. -/
import Derived.Test.YtkeggnfffnodmaaVcF
import Derived.KernelRfl
import Derived.Laws.Externs
set_option linter.unusedVariables false
namespace Go.Vc

section
variable {P : Program} {w : World}

theorem formed_of_keyLits {t : TypeId} {cs : Array Value} {la : List Lit} (hw : (match P.underlying t with | some (.array _ _) | some (.struct _) => true | _ => false) = true) (h : P.keyLits 9 t cs.toList = some la) :
    (Value.agg cs).formed P t = true := by
  unfold Program.keyLits at h
  cases hu : P.underlying t with
  | none => simp [hu] at hw
  | some d =>
    cases d <;> simp [hu] at hw
    · simp only [hu] at h
      split at h
      · rename_i hl; simp [Value.formed, hu]; simpa using hl
      · cases h
    · simp only [hu] at h
      split at h
      · rename_i hl; simp [Value.formed, hu]; simpa using hl.1
      · cases h

theorem agg_sound {t : TypeId} {xs ys : Array Value} {K : Bool → Prop} (hk : keyB P t = true) (h : eqAgg P t xs ys K) :
    ∃ r, (Op.equal t (.agg xs) (.agg ys)).run P w = .ok r w ∧ K r := by
  simp only [keyB, Bool.and_eq_true] at hk
  obtain ⟨⟨h1, h2⟩, h3⟩ := hk
  obtain ⟨la, lb, ha, hb, hk⟩ := h
  obtain ⟨r, hr, hiff⟩ := run_equalIn_deep (P := P) 9991 9 t h1 w 9 9 (.agg xs) (.agg ys) la lb (formed_of_keyLits h3 ha) (formed_of_keyLits h3 hb) ha hb
  exact ⟨r, hr, hk r hiff⟩

theorem bin_sound' {op : BinOp} {t : TypeId} {x y : Value} {xo yo : Operand} {K : Value → Prop} (h : binVc P op t x y K) :
    ∃ v, (do eqGuard op t xo yo x y; binOp op t x y : Sem Value).run P w = .ok v w ∧ K v := by
  by_cases hagg : ∃ xs ys, x = .agg xs ∧ y = .agg ys
  · obtain ⟨xs, ys, rfl, rfl⟩ := hagg
    have hg : ∀ op, keyB P t = true → (eqGuard op t xo yo (.agg xs) (.agg ys)).run P w = .ok () w := by
      intro op hk
      simp only [keyB, Bool.and_eq_true, Bool.not_eq_true'] at hk
      exact run_eqGuard_agg w op t xo yo xs ys hk.1.2
    cases op <;> simp only [binVc] at h
    · split at h
      · rename_i hk
        obtain ⟨r, hr, hk'⟩ := agg_sound (w := w) hk h
        refine ⟨_, ?_, hk'⟩
        simp only [Sem.run_bind, hg _ hk, Result.andThen_ok, binOp, hr, Sem.run_pure]
      · exact h.elim
    · split at h
      · rename_i hk
        obtain ⟨r, hr, hk'⟩ := agg_sound (w := w) hk h
        refine ⟨_, ?_, hk'⟩
        simp only [Sem.run_bind, hg _ hk, Result.andThen_ok, binOp, hr, Sem.run_pure]
      · exact h.elim
  · exact bin_sound (fun xs ys he => hagg ⟨xs, ys, he⟩) h

theorem add_zero (a : Addr) : a.add 0 = a := by simp [Addr.add]

theorem callFunc_run {f : FuncId} {args : Array Value} (h : callableB P f = true) : (callFunc f args).run P w = .ok (.enter f args) w := by
  unfold callableB at h
  split at h
  · rename_i fn hf
    simp only [Bool.and_eq_true, bne_iff_ne, ne_eq] at h
    have hb : fn.body.isNone = false := by cases hb : fn.body <;> simp_all
    have hn : (fn.name == "runtime.NumGoroutine") = false := by simpa using h.2
    simp only [callFunc, Sem.run_bind, run_program, Result.andThen_ok, hf, hn, hb, Bool.false_eq_true, if_false, Sem.run_pure]
  · cases h

theorem bytesOf_run {w : World} {p : Option Addr} {l c : Nat} {xs : List UInt8} (h : src w.heap p l = some (bcs xs).toArray) : (Extern.Bytes.bytesOf (.slice p l c)).run P w = .ok ⟨xs.toArray⟩ w := by
  cases p with
  | none =>
    simp only [src, Option.some.injEq] at h
    have : xs = [] := by
      have := congrArg Array.size h
      simp [bcs] at this
      exact List.eq_nil_of_length_eq_zero (by simpa using this.symm)
    subst this
    rfl
  | some a =>
    simp only [src, row] at h
    cases hr : rowFrom w.heap a 0 l with
    | none => simp [hr] at h
    | some L =>
      simp [hr] at h
      have key : ∀ (n i : Nat) (xs : List UInt8) (acc : ByteArray) (b : Addr), (∀ j, a.add (i + j) = b.add j) → rowFrom w.heap a i n = some (bcs xs) → (Extern.Bytes.loadBytes b n acc).run P w = .ok ⟨acc.data ++ xs.toArray⟩ w := by
        intro n
        induction n with
        | zero =>
          intro i xs acc b hb hx
          simp [rowFrom, bcs] at hx
          subst hx
          simp [Extern.Bytes.loadBytes]
        | succ n ih =>
          intro i xs acc b hb hx
          unfold rowFrom at hx
          cases hc : cell w.heap (a.add i) with
          | none => simp [hc] at hx
          | some v =>
            simp only [hc] at hx
            cases hr : rowFrom w.heap a (i + 1) n with
            | none => simp [hr] at hx
            | some r =>
              simp [hr] at hx
              cases xs with
              | nil => simp [bcs] at hx
              | cons x xs =>
                simp [bcs] at hx
                obtain ⟨rfl, hx⟩ := hx
                have e0 : a.add i = b := by have := hb 0; simpa [Addr.add] using this
                rw [e0] at hc
                have := ih (i + 1) xs (acc.push x) (b.add 1) (fun j => by
                  have := hb (j + 1)
                  rw [show i + (j + 1) = i + 1 + j by omega] at this
                  rw [this]
                  unfold Addr.add
                  by_cases hj : j = 0
                  · subst hj; simp
                  · simp [hj]; omega) (by rw [hr, hx]; rfl)
                have hx8 : ((x.toNat : Int).toNat).toUInt8 = x := by simp
                simp only [Extern.Bytes.loadBytes, Sem.run_bind, run_load_h hc, Result.andThen_ok, hx8, this]
                congr 1
                apply ByteArray.ext
                simp [ByteArray.push]
      have := key l 0 xs .empty a (fun j => by simp) (by rw [hr, h])
      simp only [Extern.Bytes.bytesOf, this]
      congr 1
      apply ByteArray.ext
      simp
theorem extern_run {f : FuncId} {args : List Value} {w : World} {K : Value → Heap → Prop} (hf : externB P f = true) (h : externVc args w.heap K) : ∃ v, (callFunc f args.toArray).run P w = .ok (.value v) w ∧ K v w.heap := by
  unfold externB at hf
  split at hf
  · rename_i fn hfn
    simp only [Bool.and_eq_true, beq_iff_eq] at hf
    obtain ⟨⟨hb, hname⟩, horig⟩ := hf
    unfold externVc at h
    split at h
    · rename_i p l c q n d
      obtain ⟨xs, ys, h1, h2, hk⟩ := h
      refine ⟨_, ?_, hk⟩
      rw [run_callFunc_extern (e := Extern.BytealgCompare.compare) hfn (by rw [hname]; decide) hb ?_ ?_]
      · have : (Extern.BytealgCompare.compare #[.slice p l c, .slice q n d]).run P w = .ok (.int .i64 (Lib.compareBytes xs ys)) w := by
          change Sem.run P (do pure (goInt (Extern.BytealgCompare.cmp (← Extern.Bytes.bytesOf (.slice p l c)) (← Extern.Bytes.bytesOf (.slice q n d))))) w = _
          simp only [Sem.run_bind, bytesOf_run h1, bytesOf_run h2, Result.andThen_ok, Sem.run_pure]
          rw [Lib.cmp_eq]
          rfl
        simp only [this, Result.andThen_ok]
      · unfold Extern.findNext
        rw [hname, horig]
        kernel_rfl
      · unfold Extern.find
        rw [hname]
        kernel_rfl
    · exact h.elim
  · cases hf
theorem toArray_map {ρ : Env} {a : Act} (hs : Sim a ρ) {xs : Array Operand} {vs : List Value} (h : opvs ρ xs.toList = some vs) : xs.map a.eval = vs.toArray := by
  apply Array.toList_inj.1
  rw [Array.toList_map, hs.opvs h]

theorem op_sound {qs : List Nat} {o : Oper} {a : Act} {ρ : Env} {K : Value → Heap → Prop} (hs : Sim a ρ) (h : opVc P qs o.op o.type ρ w.heap K) : Gives P o a w K := by
  obtain ⟨dst, op, ty, pos, after, guard⟩ := o
  simp only at h
  cases op <;> simp only [opVc] at h
  case move x =>
    obtain ⟨v, hv, h⟩ := withV_elim h
    exact Gives.value (w' := w) (by simp only [execOp, Sem.run_pure, hs.opv hv]) (Rest.refl w) h
  case assign x =>
    obtain ⟨v, hv, h⟩ := withV_elim h
    exact Gives.value (w' := w) (by simp only [execOp, Sem.run_pure, hs.opv hv]) (Rest.refl w) h
  case pick c x y =>
    obtain ⟨v, hv, h⟩ := withV_elim h
    split at h
    · rename_i t
      cases t
      · obtain ⟨u, hu, h⟩ := withV_elim h
        exact Gives.value (w' := w) (by simp only [execOp, Sem.run_bind, hs.opv hv, asBool, Sem.run_pure, Result.andThen_ok, Bool.false_eq_true, if_false, hs.opv hu]) (Rest.refl w) h
      · obtain ⟨u, hu, h⟩ := withV_elim h
        exact Gives.value (w' := w) (by simp only [execOp, Sem.run_bind, hs.opv hv, asBool, Sem.run_pure, Result.andThen_ok, if_true, hs.opv hu]) (Rest.refl w) h
    · exact h.elim
  case alloc e =>
    split at h
    · rename_i z hz
      refine Gives.value (w' := { w with heap := w.heap.push (.cells z.cells e) }) (v := .pointer (some ⟨w.heap.size, 0, none⟩)) ?_ ⟨rfl, rfl, rfl⟩ (h _ _ rfl rfl)
      simp only [execOp, Sem.run_bind, Instr.alloc, run_zero hz, Result.andThen_ok, run_newVar, Sem.run_pure]
    · exact h.elim
  case box e x =>
    obtain ⟨v, hv, h⟩ := withV_elim h
    refine Gives.value (w' := { w with heap := w.heap.push (.cells v.cells e) }) (v := .pointer (some ⟨w.heap.size, 0, none⟩)) ?_ ⟨rfl, rfl, rfl⟩ (h _ _ rfl rfl)
    simp only [execOp, Sem.run_bind, Instr.box, hs.opv hv, Result.andThen_ok, run_newVar, Sem.run_pure]
  case build t ps =>
    split at h
    · rename_i vs hps
      obtain ⟨cs, hr, hk⟩ := build_sound (w := w) h
      refine Gives.value (w' := w) (v := .agg cs) ?_ (Rest.refl w) hk
      have : ps.map (fun (i, x) => (i, a.eval x)) = vs.toArray := by
        apply Array.toList_inj.1
        rw [Array.toList_map, hs.pairs hps]
      simp only [execOp, Sem.run_bind, this, hr, Result.andThen_ok, Sem.run_pure]
    · exact h.elim
  case buildSlice t n ps =>
    split at h
    · rename_i vs hps
      obtain ⟨v, w', hr, hrest, hk⟩ := buildSlice_sound (w := w) h
      refine Gives.value (w' := w') (v := v) ?_ hrest hk
      have : ps.map (fun (i, x) => (i, a.eval x)) = vs.toArray := by
        apply Array.toList_inj.1
        rw [Array.toList_map, hs.pairs hps]
      simp only [execOp, Sem.run_bind, this, hr, Result.andThen_ok, Sem.run_pure]
    · exact h.elim
  case load t x =>
    obtain ⟨v, hv, h⟩ := withV_elim h
    split at h
    · rename_i ad
      split at h
      · rename_i hb
        obtain ⟨cs, hcs, hk⟩ := h
        refine Gives.value (w' := w) (v := .agg cs) ?_ (Rest.refl w) hk
        simp only [execOp, Sem.run_bind, Instr.loadAt, hs.opv hv, Instr.sureAddr, Sem.run_pure, Result.andThen_ok, run_loadVar_agg hb hcs]
      · rename_i hb
        obtain ⟨u, hu, hk⟩ := exTy_elim h
        refine Gives.value (w' := w) (v := u) ?_ (Rest.refl w) hk
        simp only [execOp, Sem.run_bind, Instr.loadAt, hs.opv hv, Instr.sureAddr, Sem.run_pure, Result.andThen_ok, run_loadVar_one hb hu]
      · exact h.elim
    · exact h.elim
  case store t x y =>
    obtain ⟨v, hv, h1⟩ := withV_elim h
    clear h
    obtain ⟨u, hu, h⟩ := withV_elim h1
    clear h1
    split at h
    · rename_i ad
      split at h
      · rename_i hb
        obtain ⟨h1, i, hi⟩ := run_agg hb w
        obtain ⟨hsz, hone, hw, hk⟩ := h
        refine Gives.skip (w' := { w with heap := putRow w.heap ad 0 u.cells.toList }) ?_ ⟨rfl, rfl, rfl⟩ (hk _ rfl)
        have hst := run_putRow (P := P) ad u.cells.toList 0 w (fun j hj => by rw [Nat.zero_add]; exact hw j (by rw [← hsz]; simpa using hj)) hone
        have hsz' : ¬ (u.cells.size ≠ szOf P t) := by simp [hsz]
        simp only [execOp, Sem.run_bind, Instr.storeAt, hs.opv hv, hs.opv hu, Instr.sureAddr, Sem.run_pure, Result.andThen_ok, storeVar, run_size hi, hsz', if_false, hst]
      · rename_i hb
        obtain ⟨h1, i, hi⟩ := run_agg hb w
        split at h
        · rename_i hs1
          have hs1 := Nat.eq_of_beq_eq_true hs1
          obtain ⟨hone, hw, hk⟩ := h
          refine Gives.skip (w' := { w with heap := put w.heap ad u }) ?_ ⟨rfl, rfl, rfl⟩ (hk _ rfl)
          have hc : u.cells = #[u] := by cases u <;> first | rfl | (simp [Value.oneCell'] at hone)
          have hsz : i.size = 1 := by rw [← szOf_of hi]; exact hs1
          have hsz' : ¬ (u.cells.size ≠ szOf P t) := by rw [hc, szOf_of hi, hsz]; simp
          have hst := run_putRow (P := P) ad [u] 0 w (fun j hj => by simp at hj; subst hj; rw [add_zero]; exact hw) (by simpa using hone)
          simp only [execOp, Sem.run_bind, Instr.storeAt, hs.opv hv, hs.opv hu, Instr.sureAddr, Sem.run_pure, Result.andThen_ok, storeVar, run_size hi, hsz', if_false]
          rw [hc, hst]
          simp only [putRow, add_zero, Result.andThen_ok]
        · exact h.elim
      · exact h.elim
    · exact h.elim
  case nilCheck x =>
    obtain ⟨v, hv, h⟩ := withV_elim h
    split at h
    · rename_i p
      obtain ⟨ad, rfl, hk⟩ := deref_elim h
      exact Gives.value (w' := w) (by simp only [execOp, hs.opv hv, Sem.run_pure]) (Rest.refl w) hk
    · exact h.elim
  case binOp op t x y yt =>
    obtain ⟨v, hv, h⟩ := withV_elim h
    obtain ⟨u, hu, h⟩ := withV_elim h
    obtain ⟨r, hr, hk⟩ := bin_sound' (w := w) (xo := x) (yo := y) h
    refine Gives.value (w' := w) (v := r) ?_ (Rest.refl w) hk
    simp only [execOp, hs.opv hv, hs.opv hu]
    rw [Sem.run_bind, hr]
    rfl
  case unOp op t x =>
    obtain ⟨v, hv, h⟩ := withV_elim h
    unfold unVc at h
    split at h
    · exact Gives.value (w' := w) (by simp only [execOp, hs.opv hv, Op.unary, Op.intArith, Sem.run_bind, Sem.run_pure, Result.andThen_ok]) (Rest.refl w) h
    · exact Gives.value (w' := w) (by simp only [execOp, hs.opv hv, Op.unary, Op.intBits, Sem.run_bind, Sem.run_pure, Result.andThen_ok]; rfl) (Rest.refl w) h
    · exact Gives.value (w' := w) (by simp only [execOp, hs.opv hv, Op.unary, Sem.run_bind, Sem.run_pure, Result.andThen_ok]) (Rest.refl w) h
    · exact h.elim
  case convert s d x =>
    obtain ⟨v, hv, h⟩ := withV_elim h
    obtain ⟨r, w', hr, hrest, hk⟩ := conv_sound h
    exact Gives.value (by simp only [execOp, hs.opv hv, Sem.run_bind, hr, Result.andThen_ok, Sem.run_pure]) hrest hk
  case sliceToArrayPointer t x =>
    obtain ⟨v, hv, h⟩ := withV_elim h
    split at h
    · rename_i n e p l c ht
      obtain ⟨hn, h⟩ := h
      obtain ⟨ad, rfl, hk⟩ := deref_elim h
      refine Gives.value (w' := w) (v := .pointer (some ad)) ?_ (Rest.refl w) hk
      simp only [execOp, hs.opv hv, Sem.run_bind, Instr.arrayAt, run_underlying ht, Result.andThen_ok, Nat.not_lt.2 hn, if_false, Sem.run_pure]
    · exact h.elim
  case makeFunc fn first cap =>
    split at h
    · rename_i x y hx hy
      exact Gives.value (w' := w) (by simp only [execOp, Sem.run_bind, Instr.makeFunc, toArray_map hs hx, toArray_map hs hy, Sem.run_pure, Result.andThen_ok]) (Rest.refl w) h
    · exact h.elim
  case makeSlice t l c =>
    obtain ⟨kl, l', hl, h⟩ := withI_elim h
    obtain ⟨kc, c', hc, h⟩ := withI_elim h
    split at h
    · rename_i e ht
      split at h
      · rename_i z hz
        obtain ⟨v, w', hr, hrest, hk⟩ := make_sound (kl := kl) (kc := kc) ht hz h
        exact Gives.value (by simp only [execOp, hs.opv hl, hs.opv hc, Sem.run_bind, hr, Result.andThen_ok, Sem.run_pure]) hrest hk
      · exact h.elim
    · exact h.elim
  case slice t x lo hi mx =>
    obtain ⟨v, hv, h⟩ := withV_elim h
    split at h
    · rename_i lo' hi' mx' h1 h2 h3
      obtain ⟨u, hr, hk⟩ := slice_sound (w := w) h
      refine Gives.value (w' := w) (v := u) ?_ (Rest.refl w) hk
      simp only [execOp, hs.opv hv, hs.opvo h1, hs.opvo h2, hs.opvo h3, Sem.run_bind, hr, Result.andThen_ok, Sem.run_pure]
    · exact h.elim
  case fieldAddr t x i =>
    obtain ⟨v, hv, h⟩ := withV_elim h
    split at h
    · rename_i ad f hf
      split at h
      · exact h.elim
      · rename_i hz
        refine Gives.value (w' := w) (v := .pointer (some (ad.add f.offset))) ?_ (Rest.refl w) h
        unfold fieldOf at hf
        split at hf
        · rename_i fs ht
          rw [getAt_eq] at hf
          have hne : szOf P f.type ≠ 0 := fun he => by rw [he] at hz; cases hz
          have hi : ∃ j, P.info? f.type = some j := by
            unfold szOf at hne
            cases hj : P.info? f.type with
            | none => simp [hj] at hne
            | some j => exact ⟨j, rfl⟩
          obtain ⟨j, hj⟩ := hi
          have hf' : fs[i]? = some f := by simpa using hf
          simp only [execOp, hs.opv hv, Sem.run_bind, Instr.fieldAt, run_underlying ht, Result.andThen_ok, hf', Instr.sureAddr, Sem.run_pure, fieldPlace, run_size hj, hne, if_false]
        · cases hf
    · exact h.elim
  case field t x i =>
    obtain ⟨v, hv, h⟩ := withV_elim h
    split at h
    · rename_i cs f hf
      obtain ⟨u, hr, hk⟩ := part_sound (w := w) h
      refine Gives.value (w' := w) (v := u) ?_ (Rest.refl w) hk
      unfold fieldOf at hf
      split at hf
      · rename_i fs ht
        rw [getAt_eq] at hf
        have hf' : fs[i]? = some f := by simpa using hf
        simp only [execOp, hs.opv hv, Sem.run_bind, Instr.field, run_underlying ht, Result.andThen_ok, hf', asAgg, Sem.run_pure, hr]
      · cases hf
    · exact h.elim
  case indexAddr t x i =>
    obtain ⟨v, hv, h⟩ := withV_elim h
    obtain ⟨k, i', hi, h⟩ := withI_elim h
    obtain ⟨u, hr, hk⟩ := indexAddr_sound (w := w) (k := k) h
    exact Gives.value (w' := w) (by simp only [execOp, hs.opv hv, hs.opv hi, Sem.run_bind, hr, Result.andThen_ok, Sem.run_pure]) (Rest.refl w) hk
  case index t x i =>
    obtain ⟨v, hv, h⟩ := withV_elim h
    obtain ⟨k, i', hi, h⟩ := withI_elim h
    obtain ⟨u, hr, hk⟩ := index_sound (w := w) (k := k) h
    exact Gives.value (w' := w) (by simp only [execOp, hs.opv hv, hs.opv hi, Sem.run_bind, hr, Result.andThen_ok, Sem.run_pure]) (Rest.refl w) hk
  case extract x i =>
    obtain ⟨v, hv, h⟩ := withV_elim h
    split at h
    · rename_i vs
      obtain ⟨u, hu, hk⟩ := withV_elim h
      rw [getAt_eq] at hu
      have hu' : vs[i]? = some u := by simpa using hu
      exact Gives.value (w' := w) (by simp only [execOp, hs.opv hv, Instr.extract, hu', Sem.run_bind, Sem.run_pure, Result.andThen_ok]) (Rest.refl w) hk
    · exact h.elim
  case call c =>
    obtain ⟨callee, cargs, cts⟩ := c
    split at h
    · rename_i args hargs
      have hm := toArray_map hs hargs
      simp only at hm h
      split at h
      · rename_i f
        obtain ⟨v, hv, h⟩ := withV_elim h
        split at h
        · rename_i f first cap
          unfold callVc at h
          split at h
          · rename_i hc
            unfold Gives
            have hcall : callFunc f ((first.toList ++ (args ++ cap.toList)).toArray) = callFunc f (first ++ args.toArray ++ cap) := by
              congr 1; apply Array.toList_inj.1; simp
            simp only [execOp, resolve, hs.opv hv, Deferred.ofValue, Sem.run_bind, Sem.run_pure, Result.andThen_ok, invoke, hm]
            rw [callFunc_run hc]
            refine ⟨rfl, ?_⟩
            have : first ++ args.toArray ++ cap = (first.toList ++ (args ++ cap.toList)).toArray := by apply Array.toList_inj.1; simp
            rw [this]
            split at h
            · intro w1 hw1
              exact (h w1 hw1).mono fun e w' ⟨v, he, hr, _, hb⟩ => ⟨v, he, hr, back_elim hb⟩
            · intro w1 hw1
              exact (h w1 hw1).mono fun e w' ⟨v, he, hr, hb⟩ => ⟨v, he, hr, back_elim hb⟩
          · split at h
            · rename_i hx
              obtain ⟨v, hv, hk⟩ := extern_run hx h
              refine Gives.value (w' := w) (v := v) ?_ (Rest.refl w) hk
              have hcall : callFunc f (first ++ args.toArray ++ cap) = callFunc f ((first.toList ++ (args ++ cap.toList)).toArray) := by
                congr 1; apply Array.toList_inj.1; simp
              simp only [execOp, resolve, hs.opv (by assumption), Deferred.ofValue, Sem.run_bind, Sem.run_pure, Result.andThen_ok, invoke, hm]
              rw [hcall, hv]
            · exact h.elim
        · exact h.elim
      · rename_i b
        obtain ⟨v, w', hr, hrest, hk⟩ := builtin_sound (ty := ty) (consts := cargs.map fun | .const _ => true | _ => false) h
        refine Gives.value (w' := w') (v := v) ?_ hrest hk
        simp only [Array.toArray_toList] at hr
        simp only [execOp, resolve, Sem.run_bind, Sem.run_pure, Result.andThen_ok, invoke, hm]
        exact hr
      · exact h.elim
    · exact h.elim
end
end Go.Vc
