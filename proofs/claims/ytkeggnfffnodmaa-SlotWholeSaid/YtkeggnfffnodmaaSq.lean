/- Parts of memory, second part: what is used over and over. Numbers. It speaks of no program. -/
import Derived.Test.YtkeggnfffnodmaaSp
set_option linter.unusedVariables false
namespace Go.Vc
open Go

section
variable {h0 h h' : Heap} {P Q : HP} {F : List HP}
theorem St.cell {b o i : Nat} {r : Bool} {vs : List Value} {v : Value} (hs : St h0 h (pts b o r vs :: F)) (e : vs[i]? = some v) : Vc.cell h (Addr.mk b (o + i) none) = some v := pts_cell hs.at e
theorem St.cell0 {b i : Nat} {r : Bool} {vs : List Value} {v : Value} (hs : St h0 h (pts b 0 r vs :: F)) (e : vs[i]? = some v) : Vc.cell h (Addr.mk b i none) = some v := by
  have := hs.cell e
  rwa [Nat.zero_add] at this
theorem St.row0 {b n : Nat} {r : Bool} {vs : List Value} (hs : St h0 h (pts b 0 r vs :: F)) (hn : vs.length = n) : Vc.row h (Addr.mk b 0 none) n = some vs.toArray := by
  have := pts_row (i := 0) (n := n) hs.at (by omega)
  simp only [Nat.zero_add, List.drop_zero] at this
  rw [this, List.take_of_length_le (by omega)]
theorem St.rowAt {b n i : Nat} {r : Bool} {vs : List Value} (hs : St h0 h (pts b 0 r vs :: F)) (hn : i + n ≤ vs.length) : Vc.row h (Addr.mk b i none) n = some ((vs.drop i).take n).toArray := by
  have := pts_row (i := i) (n := n) hs.at hn
  rwa [Nat.zero_add] at this
theorem St.storeAll {b n : Nat} {vs : List Value} {cs : Array Value} {K : Heap → Prop} (hs : St h0 h (pts b 0 false vs :: F)) (hn : vs.length = n) (hc : cs.size = n) (ho : one cs)
    (hk : ∀ h', St h0 h' (pts b 0 false cs.toList :: F) → K h') : Vc.storeP (some n) h (Addr.mk b 0 none) (.agg cs) K := by
  have hcs : (Value.agg cs).cells = cs := rfl
  have := hs.storeRow (o := 0) (i := 0) (n := n) (v := .agg cs) (K := K) (by rw [hcs]; exact hc) (by omega) (by rw [hcs]; exact ho) fun h' s => hk h' (by
    rw [hcs, lay_all (by simp [hc, hn])] at s; exact s)
  simpa using this
/-- The result's cell is written and read. -/
theorem St.ret {b n : Nat} {vs : List Value} {cs : Array Value} {R : Array Value → Heap → Prop} (hs : St h0 h (pts b 0 false vs :: F)) (hn : vs.length = n) (hc : cs.size = n) (ho : one cs)
    (hk : ∀ h', Ext h0 h' → R cs h') : Vc.storeP (some n) h (Addr.mk b 0 none) (.agg cs) fun h' => ∃ cs', Vc.row h' (Addr.mk b 0 none) n = some cs' ∧ R cs' h' :=
  hs.storeAll hn hc ho fun h' s => ⟨cs, by rw [s.row0 (by simp [hc])], hk h' s.ext⟩
theorem St.store0 {b i : Nat} {v : Value} {vs : List Value} {K : Heap → Prop} (hs : St h0 h (pts b 0 false vs :: F)) (hi : i < vs.length) (hv : v.oneCell' = true)
    (hk : ∀ h', St h0 h' (pts b 0 false (vs.set i v) :: F) → K h') : Vc.storeP none h (Addr.mk b i none) v K := by
  have := hs.storeP (i := i) (K := K) hi hv hk
  rwa [Nat.zero_add] at this
theorem one_list {l : List Value} (h : ∀ v ∈ l, v.oneCell' = true) : one l.toArray := fun v hv => h v (by simpa using hv)
theorem bcs_eq (l : List UInt8) : bcs l = l.map bv := rfl
theorem one_bcs (l : List UInt8) : ∀ v ∈ bcs l, v.oneCell' = true := bvs_one l
theorem bcs_length (l : List UInt8) : (bcs l).length = l.length := by simp [bcs]
theorem bcs_get {l : List UInt8} {i : Nat} (hi : i < l.length) : (bcs l)[i]? = some (.int .u8 (l[i].toNat : Int)) := by simp [bcs, hi]
theorem bcs_inj {a b : List UInt8} (h : bcs a = bcs b) : a = b := by
  unfold bcs at h
  exact (List.map_inj_right (by
    intro x y e
    simp at e
    exact UInt8.toNat_inj.1 (by omega))).1 h
theorem bcs_set (l : List UInt8) (i : Nat) (b : UInt8) : (bcs l).set i (.int .u8 (b.toNat : Int)) = bcs (l.set i b) := by simp [bcs, List.map_set]
theorem bcs_append (a b : List UInt8) : bcs (a ++ b) = bcs a ++ bcs b := by simp [bcs]
theorem bcs_take (a : List UInt8) (n : Nat) : bcs (a.take n) = (bcs a).take n := by simp [bcs, List.map_take]
theorem bcs_drop (a : List UInt8) (n : Nat) : bcs (a.drop n) = (bcs a).drop n := by simp [bcs, List.map_drop]
theorem bcs_replicate (n : Nat) (b : UInt8) : bcs (List.replicate n b) = List.replicate n (.int .u8 (b.toNat : Int)) := by simp [bcs]

/- ### Numbers -/
theorem shrI_nat (k : IntKind) (x s : Nat) (hs : s ≤ k.bits) : shrI k (x : Int) (s : Int) = ((x / 2 ^ s : Nat) : Int) := by
  unfold shrI
  rw [Int.toNat_natCast, Nat.min_eq_left hs, Int.fdiv_eq_ediv_of_nonneg _ (by
    have : (0 : Int) ≤ 2 ^ s := by exact Int.pow_nonneg (by omega)
    exact this)]
  simp
theorem wrap_u8_nat {n : Nat} (h : n < 256) : IntKind.u8.wrap (n : Int) = n := by rw [wrap_u8]; omega
theorem andI_u8 {a b : Nat} (ha : a < 256) (hb : b < 256) : andI .u8 (a : Int) (b : Int) = ((a &&& b : Nat) : Int) := by
  have hb8 : IntKind.u8.bits = 8 := rfl
  unfold andI
  rw [hb8]
  have e : (BitVec.ofInt 8 (a : Int) &&& BitVec.ofInt 8 (b : Int)).toNat = a &&& b := by
    rw [BitVec.ofInt_natCast, BitVec.ofInt_natCast, BitVec.toNat_and, BitVec.toNat_ofNat, BitVec.toNat_ofNat, Nat.mod_eq_of_lt (by omega), Nat.mod_eq_of_lt (by omega)]
  rw [e]
  exact wrap_u8_nat (Nat.lt_of_le_of_lt Nat.and_le_left ha)
theorem orI_u8 {a b : Nat} (ha : a < 256) (hb : b < 256) : orI .u8 (a : Int) (b : Int) = ((a ||| b : Nat) : Int) := by
  have hb8 : IntKind.u8.bits = 8 := rfl
  unfold orI
  rw [hb8]
  have e : (BitVec.ofInt 8 (a : Int) ||| BitVec.ofInt 8 (b : Int)).toNat = a ||| b := by
    rw [BitVec.ofInt_natCast, BitVec.ofInt_natCast, BitVec.toNat_or, BitVec.toNat_ofNat, BitVec.toNat_ofNat, Nat.mod_eq_of_lt (by omega), Nat.mod_eq_of_lt (by omega)]
  rw [e]
  exact wrap_u8_nat (Nat.or_lt_two_pow (n := 8) ha hb)
theorem xorI_u8 {a b : Nat} (ha : a < 256) (hb : b < 256) : xorI .u8 (a : Int) (b : Int) = ((a ^^^ b : Nat) : Int) := by
  have hb8 : IntKind.u8.bits = 8 := rfl
  unfold xorI
  rw [hb8]
  have e : (BitVec.ofInt 8 (a : Int) ^^^ BitVec.ofInt 8 (b : Int)).toNat = a ^^^ b := by
    rw [BitVec.ofInt_natCast, BitVec.ofInt_natCast, BitVec.toNat_xor, BitVec.toNat_ofNat, BitVec.toNat_ofNat, Nat.mod_eq_of_lt (by omega), Nat.mod_eq_of_lt (by omega)]
  rw [e]
  exact wrap_u8_nat (Nat.xor_lt_two_pow (n := 8) ha hb)
theorem u8_lt (b : UInt8) : b.toNat < 256 := b.toNat_lt
/-- A number that fits a byte is a byte's. -/
theorem byte_of {n : Nat} (h : n < 256) : (Value.int .u8 (n : Int)) = .int .u8 ((UInt8.ofNat n).toNat : Int) := by
  congr 2
  simp; omega

/- ### Two lists of cells, compared -/
theorem mapM_single {P : Program} {d : Nat} {e : TypeId} {k : IntKind} (he : P.underlying e = some (.int k)) : ∀ (xs : List Int) (cs : List Value) (i : Nat), (∀ x ∈ xs, (Lit.int k x).wf = true) → cs.drop i = xs.map (Value.int k) →
    ((List.range' i xs.length).mapM fun j => P.keyLits (d + 1) e ((cs.drop (j * 1)).take 1)) = some (xs.map fun n => [Lit.int k n])
  | [], cs, i, _, _ => by simp
  | x :: xs, cs, i, hw, h => by
    have hd : cs.drop (i + 1) = xs.map (Value.int k) := by
      have := congrArg List.tail h
      simpa using this
    have h1 : (cs.drop (i * 1)).take 1 = [Value.int k x] := by rw [Nat.mul_one, h]; rfl
    have ih := mapM_single (d := d) he xs cs (i + 1) (fun y hy => hw y (List.mem_cons_of_mem _ hy)) hd
    rw [List.length_cons, List.range'_succ, List.mapM_cons, ih, h1]
    have : P.keyLits (d + 1) e [Value.int k x] = some [Lit.int k x] := by
      unfold Program.keyLits
      rw [he]
      simp [hw x (List.mem_cons_self ..)]
    rw [this]
    rfl
theorem flat_single (xs : List Int) (k : IntKind) : (xs.map fun n => [Lit.int k n]).flatten = xs.map (Lit.int k) := by
  induction xs with
  | nil => rfl
  | cons x xs ih => simp [ih]
theorem keyLits_ints {P : Program} {d n : Nat} {t e : TypeId} {k : IntKind} (ht : P.underlying t = some (.array n e)) (he : P.underlying e = some (.int k)) (hc : P.cellsOf e = 1) (hct : P.cellsOf t = n) (xs : List Int) (hx : xs.length = n) (hw : ∀ x ∈ xs, (Lit.int k x).wf = true) :
    P.keyLits (d + 2) t (xs.map (Value.int k)) = some (xs.map (Lit.int k)) := by
  unfold Program.keyLits
  rw [ht]
  simp only [hc, hct, List.length_map, hx, if_true]
  have := mapM_single (d := d) he xs (xs.map (Value.int k)) 0 hw (by simp)
  rw [hx] at this
  rw [List.range_eq_range', this]
  simp only [Option.map_some, flat_single]
end
end Go.Vc
namespace Go.Vc
open Go
theorem zeroRow_uniform {sz : Nat} {z : Value} (hsz : 0 < sz) (n : Nat) : zeroRow (Array.replicate sz z) n = Array.replicate n z := by
  unfold zeroRow
  apply Array.ext
  · simp
  · intro i h1 h2
    have key : ∀ j, j < sz → (Array.replicate sz z)[j]! = z := fun j hj => by
      rw [getElem!_pos (Array.replicate sz z) j (by simpa using hj)]
      simp
    simp only [Array.getElem_map, Array.getElem_replicate, Array.size_replicate]
    exact key _ (Nat.mod_lt _ hsz)
/-- Memory made of zeros. -/
theorem St.make {h0 h : Heap} {F : List HP} {e : TypeId} {sz bytes : Nat} {zero : Array Value} {z : Value} {l c : Nat} {K : Nat → Heap → Prop} (hs : St h0 h F) (hzero : zero = Array.replicate sz z) (hsz : 0 < sz)
    (hlc : l ≤ c) (hc : c ≤ maxLen) (hb : bytes * c ≤ 281474976710656) (hk : ∀ b h', St h0 h' (own sz (some ⟨b, 0, none⟩) l c (List.replicate (l * sz) z) :: F) → K b h') : makeP e sz bytes zero (l : Int) (c : Int) h K := by
  subst hzero
  have hb' : ((bytes * c : Nat) : Int) ≤ 281474976710656 := by omega
  refine ⟨by omega, by omega, by omega, by rw [Int.natCast_mul] at hb'; exact hb', ?_⟩
  simp only [Int.toNat_natCast]
  have hcells : (if c * sz = 0 then (#[] : Array Value) else zeroRow (Array.replicate sz z) (c * sz)) = Array.replicate (c * sz) z := by
    split
    · rename_i h; rw [h]; rfl
    · exact zeroRow_uniform hsz _
  rw [hcells]
  refine hs.newBlk fun b h' _ s _ => hk b h' (s.impl fun m p => ⟨by simp, hlc, hc, .inr ⟨b, 0, List.replicate ((c - l) * sz) z, rfl, by simp, ?_⟩⟩)
  have hm := Nat.mul_le_mul_right sz hlc
  rw [List.replicate_append_replicate, ← Nat.add_mul]
  have : l + (c - l) = c := by omega
  rw [this]
  simpa using p
end Go.Vc
