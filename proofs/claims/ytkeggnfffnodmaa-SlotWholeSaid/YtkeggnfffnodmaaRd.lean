/- What came in with a call, read by the shape of its type. It speaks of no program. -/
import Derived.Below
import Derived.Test.YtkeggnfffnodmaaSq
set_option linter.unusedVariables false
namespace Go.Vc
open Go

/-- The shape of plain data. -/
inductive Shape where
  | int (k : IntKind) | bool | str | slice (s : Shape) | arr (n : Nat) (s : Shape) | nil | cons (s r : Shape)
def Shape.size : Shape → Nat
  | .arr n s => n * s.size
  | .nil => 0
  | .cons s r => s.size + r.size
  | _ => 1
/-- Cells of a shape, and what they lead to. -/
def Rdb (h : Heap) : Shape → List Value → Prop
  | .int k, cs => ∃ n, cs = [.int k n] ∧ (Lit.int k n).wf = true
  | .bool, cs => ∃ b, cs = [.bool b]
  | .str, cs => ∃ s, cs = [.string s] ∧ s.size ≤ maxLen
  | .slice s, cs => ∃ p l c, cs = [.slice p l c] ∧ l ≤ c ∧ c ≤ maxLen ∧ ∃ rows : List (List Value), rows.length = l ∧ Rd h s.size p l rows.flatten ∧ ∀ r ∈ rows, Rdb h s r
  | .arr n s, cs => ∃ rows : List (List Value), rows.length = n ∧ cs = rows.flatten ∧ ∀ r ∈ rows, Rdb h s r
  | .nil, cs => cs = []
  | .cons s r, cs => ∃ a b, cs = a ++ b ∧ Rdb h s a ∧ Rdb h r b
theorem flatten_length {n : Nat} : ∀ {rows : List (List Value)}, (∀ r ∈ rows, r.length = n) → rows.flatten.length = rows.length * n
  | [], _ => by simp
  | r :: rs, h => by
    rw [List.flatten_cons, List.length_append, flatten_length (fun x hx => h x (List.mem_cons_of_mem _ hx)), h r (List.mem_cons_self ..), List.length_cons, Nat.add_mul]
    omega
theorem Rdb.len {h : Heap} : ∀ {s : Shape} {cs : List Value}, Rdb h s cs → cs.length = s.size
  | .int k, cs, ⟨n, e, _⟩ => by rw [e]; rfl
  | .bool, cs, ⟨n, e⟩ => by rw [e]; rfl
  | .str, cs, ⟨n, e, _⟩ => by rw [e]; rfl
  | .slice s, cs, ⟨p, l, c, e, _⟩ => by rw [e]; rfl
  | .arr n s, cs, ⟨rows, e1, e2, e3⟩ => by rw [e2, flatten_length (fun r hr => Rdb.len (e3 r hr)), e1]; rfl
  | .nil, cs, e => by rw [show cs = [] from e]; rfl
  | .cons s r, cs, ⟨a, b, e, ha, hb⟩ => by rw [e, List.length_append, ha.len, hb.len]; rfl
def fieldsShape (f : TypeId → Option Shape) : Nat → List Field → Option Shape
  | _, [] => some .nil
  | off, x :: r => match Nat.beq x.offset off, f x.type with
    | true, some s => (match fieldsShape f (off + s.size) r with | some q => some (.cons s q) | none => none)
    | _, _ => none
def shapeOf (P : Program) : Nat → TypeId → Option Shape
  | 0, _ => none
  | d + 1, t =>
    let o : Option Shape := match P.underlying t with
      | some (.int k) => some (.int k)
      | some .bool => some .bool
      | some .string => some .str
      | some (.slice e) => (shapeOf P d e).map .slice
      | some (.array n e) => (shapeOf P d e).map (.arr n)
      | some (.struct fs) => fieldsShape (shapeOf P d) 0 fs.toList
      | _ => none
    match o with
    | some s => (match Nat.beq s.size (P.cellsOf t) with | true => some s | false => none)
    | none => none
theorem shapeOf_size {P : Program} : ∀ {d : Nat} {t : TypeId} {s : Shape}, shapeOf P d t = some s → P.cellsOf t = s.size
  | 0, _, _, e => by cases e
  | d + 1, t, s, e => by
    unfold shapeOf at e
    simp only at e
    split at e
    · split at e
      · rename_i hb
        cases e
        exact (Nat.eq_of_beq_eq_true hb).symm
      · cases e
    · cases e
theorem mapM_range {α β : Type} {f : Nat → Option β} : ∀ {n i : Nat} {ys : List β}, (List.range' i n).mapM f = some ys → ys.length = n ∧ ∀ j (hj : j < ys.length), f (i + j) = some ys[j]
  | 0, i, ys, h => by
    simp at h
    subst h
    exact ⟨rfl, fun j hj => by simp at hj⟩
  | n + 1, i, ys, h => by
    rw [List.range'_succ, List.mapM_cons] at h
    cases hf : f i with
    | none => simp [hf] at h
    | some y =>
      cases hr : (List.range' (i + 1) n).mapM f with
      | none => simp [hf, hr] at h
      | some zs =>
        simp [hf, hr] at h
        subst h
        obtain ⟨h1, h2⟩ := mapM_range (α := α) hr
        refine ⟨by simp [h1], fun j hj => ?_⟩
        cases j with
        | zero => simpa using hf
        | succ j =>
          have := h2 j (by simpa using hj)
          rw [show i + (j + 1) = i + 1 + j by omega]
          simpa using this
theorem cells_some {w : World} {base : Nat} {a : Addr} {n : Nat} {cs : List Value} (h : w.cells? base a n = some cs) : cs.length = n ∧ ∀ j (hj : j < cs.length), cell w.heap (a.add j) = some cs[j] := by
  unfold World.cells? at h
  split at h
  · rw [List.range_eq_range'] at h
    obtain ⟨h1, h2⟩ := mapM_range (α := Unit) h
    refine ⟨h1, fun j hj => ?_⟩
    have := h2 j hj
    rwa [Nat.zero_add] at this
  · cases h
theorem add_add (a : Addr) (i j : Nat) (hj : a.spot = none) : (a.add i).add j = a.add (i + j) := by
  obtain ⟨b, o, s⟩ := a
  simp only at hj
  subst hj
  rw [add_mk, add_mk, add_mk, Nat.add_assoc]
theorem flatten_get {n : Nat} {rows : List (List Value)} (hn : ∀ r ∈ rows, r.length = n) {j : Nat} (hj : j < rows.flatten.length) (hp : 0 < n) :
    ∃ (h1 : j / n < rows.length) (h2 : j % n < rows[j / n].length), rows.flatten[j] = (rows[j / n])[j % n] := by
  induction rows generalizing j with
  | nil => simp at hj
  | cons r rs ih =>
    have hr := hn r (List.mem_cons_self ..)
    by_cases hlt : j < n
    · have e1 : j / n = 0 := Nat.div_eq_of_lt hlt
      have e2 : j % n = j := Nat.mod_eq_of_lt hlt
      refine ⟨by rw [e1]; simp, by simp only [e1, e2, List.getElem_cons_zero]; omega, ?_⟩
      simp only [List.flatten_cons, e1, e2, List.getElem_cons_zero]
      rw [List.getElem_append_left]
    · have hl : (r ++ rs.flatten).length = r.length + rs.flatten.length := List.length_append
      rw [List.flatten_cons] at hj
      obtain ⟨h1, h2, h3⟩ := ih (fun x hx => hn x (List.mem_cons_of_mem _ hx)) (j := j - n) (by omega)
      have e1 : j / n = (j - n) / n + 1 := by
        rw [Nat.div_eq_sub_div hp (by omega)]
      have e2 : j % n = (j - n) % n := by rw [Nat.mod_eq_sub_mod (by omega)]
      refine ⟨by rw [e1]; simp; omega, by simp only [e1, e2, List.getElem_cons_succ]; exact h2, ?_⟩
      simp only [List.flatten_cons, e1, e2, List.getElem_cons_succ]
      rw [List.getElem_append_right (by omega)]
      simp only [hr]
      exact h3
section
variable {H : Type} {enc : TypeId × Value → H} {P : Program} {w : World} {base : Nat} {spare : Nat → Bool} {held : Bool}
theorem rdb_fields {d fuel : Nat} {f : TypeId → Option Shape} (hf : ∀ t s cs y, f t = some s → DataW.trod enc P w base spare held fuel t cs = some y → P.cellsOf t = s.size ∧ Rdb w.heap s cs) :
    ∀ (fs : List Field) (off : Nat) (s : Shape) (cs : List Value) (ys : List (DataW H × List MemPlace)), fieldsShape f off fs = some s → cs.length = off + s.size →
      (fs.mapM fun x => DataW.trod enc P w base spare held fuel x.type ((cs.drop x.offset).take (P.cellsOf x.type))) = some ys → Rdb w.heap s (cs.drop off)
  | [], off, s, cs, ys, hs, hl, h => by
    simp [fieldsShape] at hs
    subst hs
    have : cs.length = off := hl
    exact List.drop_of_length_le (by omega)
  | x :: r, off, s, cs, ys, hs, hl, h => by
    unfold fieldsShape at hs
    split at hs
    · rename_i q hb hx
      have hoff := Nat.eq_of_beq_eq_true hb
      split at hs
      · rename_i q' hq
        cases hs
        rw [List.mapM_cons] at h
        cases hy : DataW.trod enc P w base spare held fuel x.type ((cs.drop x.offset).take (P.cellsOf x.type)) with
        | none => simp [hy] at h
        | some y =>
          cases hr : r.mapM fun x => DataW.trod enc P w base spare held fuel x.type ((cs.drop x.offset).take (P.cellsOf x.type)) with
          | none => simp [hy, hr] at h
          | some zs =>
            obtain ⟨h1, h2⟩ := hf _ _ _ _ hx hy
            have hsz : (Shape.cons q q').size = q.size + q'.size := rfl
            have ih := rdb_fields (d := d) hf r (off + q.size) q' cs zs hq (by omega) hr
            refine ⟨(cs.drop off).take q.size, cs.drop (off + q.size), ?_, ?_, ih⟩
            · rw [← List.drop_drop, List.take_append_drop]
            · rw [hoff, h1] at h2; exact h2
      · cases hs
    · cases hs
theorem rdb_of : ∀ {d : Nat} {t : TypeId} {s : Shape}, shapeOf P d t = some s → ∀ {fuel : Nat} {cs : List Value} {y : DataW H × List MemPlace}, DataW.trod enc P w base spare held fuel t cs = some y → Rdb w.heap s cs
  | 0, _, _, e, _, _, _, _ => by cases e
  | d + 1, t, s, e, 0, cs, y, h => by cases h
  | d + 1, t, s, e, fuel + 1, cs, y, h => by
    have hsz := shapeOf_size e
    unfold shapeOf at e
    simp only at e
    split at e
    · rename_i s' hs'
      split at e
      · cases e
        rename_i hb
        unfold DataW.trod at h
        split at hs'
        · rename_i k hu
          cases hs'
          rw [hu] at h
          simp only at h
          split at h <;> rename_i heq
          all_goals first
            | (cases heq; done)
            | skip
          · cases heq
            split at h
            · rename_i hc
              obtain ⟨rfl, hw⟩ := hc
              exact ⟨_, rfl, hw⟩
            · cases h
          all_goals (first | (cases h; done) | skip)
        · rename_i hu
          cases hs'
          rw [hu] at h
          simp only at h
          split at h <;> rename_i heq
          all_goals first
            | (cases heq; done)
            | skip
          · exact ⟨_, rfl⟩
          all_goals (first | (cases h; done) | skip)
        · rename_i hu
          cases hs'
          rw [hu] at h
          simp only at h
          split at h <;> rename_i heq
          all_goals first
            | (cases heq; done)
            | skip
          · split at h
            · rename_i hc; exact ⟨_, rfl, hc⟩
            · cases h
          all_goals (first | (cases h; done) | skip)
        · rename_i e hu
          rw [hu] at h
          cases he : shapeOf P d e with
          | none => simp [he] at hs'
          | some q =>
            simp [he] at hs'
            subst hs'
            have hq := shapeOf_size he
            simp only at h
            split at h <;> rename_i heq
            all_goals first
              | (cases heq; done)
              | skip
            · cases h
              exact ⟨none, 0, 0, rfl, Nat.le_refl _, Nat.zero_le _, [], rfl, Rd.nil _ _, fun r hr => by cases hr⟩
            · rename_i e' a len cap
              cases heq
              split at h
              · rename_i hc
                obtain ⟨hc1, hc2, hc3⟩ := hc
                obtain ⟨els, hels, h⟩ := Option.bind_eq_some_iff.1 h
                rw [List.range_eq_range'] at hels
                obtain ⟨g1, g2⟩ := mapM_range (α := Unit) hels
                have hrow : ∀ j, j < len → ∃ cs, w.cells? base (a.add (j * P.cellsOf e)) (P.cellsOf e) = some cs ∧ Rdb w.heap q cs := fun j hj => by
                  have := g2 j (by omega)
                  rw [Nat.zero_add] at this
                  obtain ⟨cs, k1, k2⟩ := Option.bind_eq_some_iff.1 this
                  exact ⟨cs, k1, rdb_of he k2⟩
                refine ⟨some a, len, cap, rfl, hc2, hc3, ?_⟩
                have hall : ∀ n, n ≤ len → ∃ rows : List (List Value), rows.length = n ∧ ∀ j (hj : j < rows.length), w.cells? base (a.add (j * P.cellsOf e)) (P.cellsOf e) = some rows[j] ∧ Rdb w.heap q rows[j] := by
                  intro n
                  induction n with
                  | zero => intro _; exact ⟨[], rfl, fun j hj => by simp at hj⟩
                  | succ n ih =>
                    intro hn
                    obtain ⟨rows, r1, r2⟩ := ih (by omega)
                    obtain ⟨cs, k1, k2⟩ := hrow n (by omega)
                    refine ⟨rows ++ [cs], by simp [r1], fun j hj => ?_⟩
                    by_cases hjn : j < rows.length
                    · rw [List.getElem_append_left hjn]; exact r2 j hjn
                    · have : j = n := by simp at hj; omega
                      subst this
                      rw [List.getElem_append_right (by omega)]
                      simp only [r1, Nat.sub_self, List.getElem_cons_zero]
                      exact ⟨k1, k2⟩
                obtain ⟨rows, r1, r2⟩ := hall len (Nat.le_refl _)
                have hrdb : ∀ r ∈ rows, Rdb w.heap q r := fun r hr => by
                  obtain ⟨j, hj, rfl⟩ := List.mem_iff_getElem.1 hr
                  exact (r2 j hj).2
                refine ⟨rows, r1, ?_, hrdb⟩
                have hfl := flatten_length (n := q.size) (rows := rows) fun r hr => (hrdb r hr).len
                refine ⟨by rw [hfl, r1], ?_⟩
                simp only [src]
                by_cases hz : len * q.size = 0
                · rw [hz]
                  have : rows.flatten = [] := List.eq_nil_of_length_eq_zero (by rw [hfl, r1]; exact hz)
                  rw [this]; rfl
                · have hq0 : 0 < q.size := Nat.pos_of_ne_zero fun e0 => hz (by rw [e0, Nat.mul_zero])
                  have hl0 : 0 < len := Nat.pos_of_ne_zero fun e0 => hz (by rw [e0, Nat.zero_mul])
                  have hsp : a.spot = none := by
                    obtain ⟨c1, c2⟩ := cells_some (r2 0 (by omega)).1
                    have := c2 0 (by omega)
                    rw [Nat.zero_mul] at this
                    have e0 : (a.add 0).add 0 = a := by simp [Addr.add]
                    rw [e0] at this
                    unfold cell at this
                    split at this
                    · split at this
                      · cases this
                      · rename_i hn; simpa using hn
                    · cases this
                  have := row_of (h := w.heap) (a := a) rows.flatten fun j hj => by
                    obtain ⟨f1, f2, f3⟩ := flatten_get (fun r hr => (hrdb r hr).len) hj hq0
                    rw [f3]
                    obtain ⟨c1, c2⟩ := cells_some (r2 (j / q.size) f1).1
                    have := c2 (j % q.size) f2
                    rw [hq, add_add _ _ _ hsp, Nat.div_add_mod' j q.size] at this
                    exact this
                  rw [hfl, r1] at this
                  exact this
              · cases h
            all_goals (first | (cases h; done) | skip)
        · rename_i n e hu
          rw [hu] at h
          cases he : shapeOf P d e with
          | none => simp [he] at hs'
          | some q =>
            simp [he] at hs'
            subst hs'
            have hq := shapeOf_size he
            simp only at h
            · split at h
              · rename_i hl
                obtain ⟨els, hels, h⟩ := Option.map_eq_some_iff.1 h
                rw [List.range_eq_range'] at hels
                obtain ⟨g1, g2⟩ := mapM_range (α := Unit) hels
                refine ⟨(List.range n).map fun j => (cs.drop (j * q.size)).take q.size, by simp, ?_, ?_⟩
                · have hln : cs.length = n * q.size := by rw [hl, hsz]; rfl
                  have key : ∀ (m i : Nat), i + m = n → cs.drop (i * q.size) = ((List.range' i m).map fun j => (cs.drop (j * q.size)).take q.size).flatten := by
                    intro m
                    induction m with
                    | zero => intro i hi; simp at hi ⊢; subst hi; omega
                    | succ m ih =>
                      intro i hi
                      rw [List.range'_succ, List.map_cons, List.flatten_cons, ← ih (i + 1) (by omega)]
                      rw [show (i + 1) * q.size = i * q.size + q.size by rw [Nat.add_mul, Nat.one_mul], ← List.drop_drop, List.take_append_drop]
                  have := key n 0 (by omega)
                  rw [Nat.zero_mul, List.drop_zero] at this
                  rw [List.range_eq_range', ← this]
                · intro r hr
                  obtain ⟨j, hj, rfl⟩ := List.mem_map.1 hr
                  rw [List.mem_range] at hj
                  have := g2 j (by omega)
                  rw [Nat.zero_add, hq] at this
                  exact rdb_of he this
              · cases h
        · rename_i fs hu
          rw [hu] at h
          simp only at h
          · split at h
            · rename_i hl
              obtain ⟨els, hels, h⟩ := Option.map_eq_some_iff.1 h
              have := rdb_fields (d := d) (f := shapeOf P d) (fun t s cs y h1 h2 => ⟨shapeOf_size h1, rdb_of h1 h2⟩) fs.toList 0 s cs els hs' (by rw [hl, hsz, Nat.zero_add]) hels
              simpa using this
            · cases h
        · cases hs'
      · cases e
    · cases e
theorem rdb_Trod {d : Nat} {t : TypeId} {s : Shape} (hs : shapeOf P d t = some s) {v : Value} {x : DataW H} {ps : List MemPlace} (h : DataW.Trod enc P w base spare held t v x ps) : Rdb w.heap s v.cells.toList := by
  obtain ⟨fuel, hf⟩ := h
  exact rdb_of hs hf
end

/- ### Shapes, laid open -/
theorem Rdb.u8s {h : Heap} : ∀ {rows : List (List Value)}, (∀ r ∈ rows, Rdb h (.int .u8) r) → ∃ bs : List UInt8, bs.length = rows.length ∧ rows.flatten = bcs bs
  | [], _ => ⟨[], rfl, rfl⟩
  | r :: rs, hr => by
    obtain ⟨bs, h1, h2⟩ := Rdb.u8s fun x hx => hr x (List.mem_cons_of_mem _ hx)
    obtain ⟨n, e, hw⟩ := hr r (List.mem_cons_self ..)
    have hb : 0 ≤ n ∧ n < 256 := by
      simp [Lit.wf, IntKind.min, IntKind.max, IntKind.bits, IntKind.signed] at hw
      omega
    refine ⟨UInt8.ofNat n.toNat :: bs, by simp [h1], ?_⟩
    rw [List.flatten_cons, h2, e]
    have : (UInt8.ofNat n.toNat).toNat = n.toNat := by rw [UInt8.toNat_ofNat']; omega
    simp only [bcs, List.map_cons, this]
    rw [show ((n.toNat : Nat) : Int) = n by omega]
    rfl
/-- Bytes that came in. -/
theorem Rdb.bytes {h : Heap} {cs : List Value} (r : Rdb h (.slice (.int .u8)) cs) : ∃ p l c bs, cs = [.slice p l c] ∧ l ≤ c ∧ c ≤ maxLen ∧ Bs h p l bs := by
  obtain ⟨p, l, c, e, h1, h2, rows, h3, h4, h5⟩ := r
  obtain ⟨bs, g1, g2⟩ := Rdb.u8s h5
  refine ⟨p, l, c, bs, e, h1, h2, by rw [g1, h3], ?_⟩
  rw [g2] at h4
  exact h4
theorem Rdb.byteArr {h : Heap} {n : Nat} {cs : List Value} (r : Rdb h (.arr n (.int .u8)) cs) : ∃ bs : List UInt8, bs.length = n ∧ cs = bcs bs := by
  obtain ⟨rows, h1, h2, h3⟩ := r
  obtain ⟨bs, g1, g2⟩ := Rdb.u8s h3
  exact ⟨bs, by rw [g1, h1], by rw [h2, g2]⟩
end Go.Vc
namespace Go.Vc
open Go
/-- An argument, by its shape. -/
def ArgR (h : Heap) (s : Shape) (v : Value) : Prop :=
  match s with
  | .arr _ _ => ∃ cs, v = .agg cs ∧ Rdb h s cs.toList
  | .cons _ _ => ∃ cs, v = .agg cs ∧ Rdb h s cs.toList
  | .nil => ∃ cs, v = .agg cs ∧ Rdb h s cs.toList
  | s => Rdb h s [v]
theorem fieldsShape_agg {f : TypeId → Option Shape} : ∀ {fs : List Field} {off : Nat} {s : Shape}, fieldsShape f off fs = some s → s = .nil ∨ ∃ a b, s = .cons a b
  | [], _, s, e => by simp [fieldsShape] at e; exact .inl e.symm
  | x :: r, off, s, e => by
    unfold fieldsShape at e
    split at e
    · split at e
      · cases e; exact .inr ⟨_, _, rfl⟩
      · cases e
    · cases e
theorem arg_of {H : Type} {enc : TypeId × Value → H} {P : Program} {w : World} {base b0 : Nat} {spare : Nat → Bool} {held : Bool} {r : Reach} {d : Nat} {t : TypeId} {s : Shape} {v : Value} {x : DataW H} {ps : List MemPlace}
    (hs : shapeOf P d t = some s) (hv : Value.okWide P w r b0 t v) (h : DataW.Trod enc P w base spare held t v x ps) : ArgR w.heap s v := by
  have hr := rdb_Trod hs h
  cases d with
  | zero => cases hs
  | succ d =>
    unfold shapeOf at hs
    simp only at hs
    split at hs
    · rename_i s' hs'
      split at hs
      · cases hs
        unfold Value.okWide at hv
        have one : (∀ cs, v ≠ .agg cs) → v.cells.toList = [v] := fun hn => by
          cases v <;> first | rfl | exact (hn _ rfl).elim
        split at hs'
        · rename_i k hu
          rw [hu] at hv
          simp only [Cell.okWide, hu] at hv
          cases hs'
          rw [one fun cs e => by subst e; simp [Cell.ok, hu] at hv] at hr
          exact hr
        · rename_i hu
          rw [hu] at hv
          simp only [Cell.okWide, hu] at hv
          cases hs'
          rw [one fun cs e => by subst e; simp [Cell.ok, hu] at hv] at hr
          exact hr
        · rename_i hu
          rw [hu] at hv
          simp only [Cell.okWide, hu] at hv
          cases hs'
          rw [one fun cs e => by subst e; simp [Cell.ok, hu] at hv] at hr
          exact hr
        · rename_i e hu
          rw [hu] at hv
          simp only [Cell.okWide, hu] at hv
          cases he : shapeOf P d e with
          | none => simp [he] at hs'
          | some q =>
            simp [he] at hs'
            subst hs'
            rw [one fun cs e => by subst e; simp [Cell.ok, hu] at hv] at hr
            exact hr
        · rename_i n e hu
          rw [hu] at hv
          simp only at hv
          obtain ⟨cs, rfl, _⟩ := hv
          cases he : shapeOf P d e with
          | none => simp [he] at hs'
          | some q =>
            simp [he] at hs'
            subst hs'
            exact ⟨cs, rfl, hr⟩
        · rename_i fs hu
          rw [hu] at hv
          simp only at hv
          obtain ⟨cs, rfl, _⟩ := hv
          rcases fieldsShape_agg hs' with rfl | ⟨a, b, rfl⟩
          · exact ⟨cs, rfl, hr⟩
          · exact ⟨cs, rfl, hr⟩
        · cases hs'
      · cases hs
    · cases hs
theorem int_arg {h : Heap} {k : IntKind} {v : Value} (a : ArgR h (.int k) v) : ∃ n, v = .int k n ∧ (Lit.int k n).wf = true := by
  obtain ⟨n, e, hw⟩ := a
  exact ⟨n, by simpa using e, hw⟩
theorem bytes_arg {h : Heap} {v : Value} (a : ArgR h (.slice (.int .u8)) v) : ∃ p l c bs, v = .slice p l c ∧ l ≤ c ∧ c ≤ maxLen ∧ Bs h p l bs := by
  obtain ⟨p, l, c, bs, e, h1, h2, h3⟩ := Rdb.bytes a
  exact ⟨p, l, c, bs, by simpa using e, h1, h2, h3⟩
theorem wf_u {k : IntKind} {n : Int} (hk : k.signed = false) (h : (Lit.int k n).wf = true) : 0 ≤ n ∧ n < 2 ^ k.bits := by
  simp [Lit.wf, IntKind.min, IntKind.max, hk] at h
  omega
theorem wf_i64 {n : Int} (h : (Lit.int .i64 n).wf = true) : -9223372036854775808 ≤ n ∧ n ≤ 9223372036854775807 := by
  simp [Lit.wf, IntKind.min, IntKind.max, IntKind.bits, IntKind.signed] at h
  omega
end Go.Vc
