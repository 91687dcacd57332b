/- Layer 18: messages in memory; the encoder. -/
import Derived.Test.YthlmiijlhiiccaaGreatmr
import Derived.Test.YthlmiijlhiiccaaGreatL1
import Derived.Test.YthlmiijlhiiccaaGreatFm
set_option linter.unusedVariables false
set_option maxRecDepth 100000
namespace Go.Proofs.YthlmiijlhiiccaaGreat
open Go Go.Vc Go.Proofs Go.Vc.Keys
/- ### What stands in memory -/
def TxtR (h : Heap) (c : Value) (x : Bytes) : Prop := ∃ p l cap, c = .slice p l cap ∧ l ≤ cap ∧ Bs h p l x
theorem TxtR.ext {h h' : Heap} {c : Value} {x : Bytes} (r : TxtR h c x) (e : Ext h h') : TxtR h' c x := by
  obtain ⟨p, l, cap, a, b, d⟩ := r
  exact ⟨p, l, cap, a, b, d.ext e⟩
abbrev Rel (α : Type) := Heap → List Value → α → Prop
def Keeps {α : Type} (R : Rel α) : Prop := ∀ h h' cs x, Ext h h' → R h cs x → R h' cs x
def ones (cs : List Value) : Prop := ∀ v ∈ cs, v.oneCell' = true
def LsR {α : Type} (sz : Nat) (R : Rel α) (h : Heap) (c : Value) (xs : List α) : Prop := ∃ p l cap, ∃ rows : List (List Value), c = .slice p l cap ∧ l ≤ cap ∧ rows.length = l ∧ xs.length = l ∧ Rd h sz p l rows.flatten ∧
  ∀ i (h1 : i < rows.length) (h2 : i < xs.length), rows[i].length = sz ∧ ones rows[i] ∧ R h rows[i] xs[i]
theorem LsR.ext {α : Type} {sz : Nat} {R : Rel α} (k : Keeps R) {h h' : Heap} {c : Value} {xs : List α} (r : LsR sz R h c xs) (e : Ext h h') : LsR sz R h' c xs := by
  obtain ⟨p, l, cap, rows, a, b, d, f, g, i⟩ := r
  exact ⟨p, l, cap, rows, a, b, d, f, g.ext e, fun j h1 h2 => ⟨(i j h1 h2).1, (i j h1 h2).2.1, k _ _ _ _ e (i j h1 h2).2.2⟩⟩
theorem LsR.get {α : Type} {sz : Nat} {R : Rel α} {h : Heap} {c : Value} {xs : List α} (hz : 0 < sz) (r : LsR sz R h c xs) : ∃ p l cap, c = .slice p l cap ∧ l ≤ cap ∧ xs.length = l ∧ ∀ i (hi : i < xs.length), ∃ b o cs, p = some (Addr.mk b o none) ∧ row h (Addr.mk b (o + i * sz) none) sz = some cs.toArray ∧ cs.length = sz ∧ ones cs ∧ R h cs xs[i] := by
  obtain ⟨p, l, cap, rows, a, b, d, f, g, k⟩ := r
  refine ⟨p, l, cap, a, b, f, fun i hi => ?_⟩
  have hsz : ∀ r ∈ rows, r.length = sz := fun r hr => by
    obtain ⟨j, hj, rfl⟩ := List.mem_iff_getElem.1 hr
    exact (k j hj (by omega)).1
  obtain ⟨bb, o, e, hc⟩ := rows_get g d hsz hz (show i < l by omega)
  obtain ⟨k1, k2, k3⟩ := k i (by omega) hi
  refine ⟨bb, o, rows[i], e, ?_, k1, k2, k3⟩
  have := row_of (h := h) (a := Addr.mk bb (o + i * sz) none) rows[i] fun j hj => by
    rw [add_mk]
    exact hc j (by omega) (by omega) hj
  rw [k1] at this
  exact this
def HashR : Rel Bytes := fun _ cs x => x.length = 32 ∧ cs = bcs x
theorem keeps_Hash : Keeps HashR := fun _ _ _ _ _ r => r
def pfC (p : Pf) : List Value := .int .i64 p.len :: bcs p.bits
def PfOk (p : Pf) : Prop := p.bits.length = 32 ∧ I64 p.len
def StpR : Rel Stp := fun _ cs s => PfOk s.p ∧ s.other.length = 32 ∧ cs = pfC s.p ++ bcs s.other
theorem keeps_Stp : Keeps StpR := fun _ _ _ _ _ r => r
structure VrR (h : Heap) (cs : List Value) (v : Vr) : Prop where
  len : cs.length = 67
  num : cs[0]? = some (.int .i64 v.num)
  ep : cs[1]? = some (.int .i64 v.ep)
  salt : (cs.drop 2).take 32 = bcs v.salt
  before : (cs.drop 34).take 32 = bcs v.before
  value : ∃ c, cs[66]? = some c ∧ TxtR h c v.value
  lens : v.salt.length = 32 ∧ v.before.length = 32
  ints : I64 v.num ∧ I64 v.ep
theorem keeps_Vr : Keeps VrR := fun _ _ _ _ e r => ⟨r.len, r.num, r.ep, r.salt, r.before, by obtain ⟨c, h1, h2⟩ := r.value; exact ⟨c, h1, h2.ext e⟩, r.lens, r.ints⟩
def RwR : Rel Rw := fun _ cs r => r.key.length = 32 ∧ r.value.length = 32 ∧ PfOk r.p ∧ r.left.length = 32 ∧ r.right.length = 32 ∧ cs = .bool r.leaf :: (bcs r.key ++ (bcs r.value ++ (pfC r.p ++ (bcs r.left ++ bcs r.right))))
theorem keeps_Rw : Keeps RwR := fun _ _ _ _ _ r => r
def NwR : Rel Nw := fun h cs n => ∃ c vs, cs = c :: vs ∧ TxtR h c n.label ∧ VrR h vs n.v
theorem keeps_Nw : Keeps NwR := fun _ _ _ _ e ⟨c, vs, h1, h2, h3⟩ => ⟨c, vs, h1, h2.ext e, keeps_Vr _ _ _ _ e h3⟩
structure PrR (h : Heap) (cs : List Value) (pr : Prf) : Prop where
  len : cs.length = 163
  steps : ∃ c, cs[0]? = some c ∧ LsR 65 StpR h c pr.steps
  en : cs[1]? = some (.int .i64 pr.en)
  key : (cs.drop 2).take 32 = bcs pr.key
  value : (cs.drop 34).take 32 = bcs pr.value
  p : (cs.drop 66).take 33 = pfC pr.p
  left : (cs.drop 99).take 32 = bcs pr.left
  right : (cs.drop 131).take 32 = bcs pr.right
  lens : pr.key.length = 32 ∧ pr.value.length = 32 ∧ PfOk pr.p ∧ pr.left.length = 32 ∧ pr.right.length = 32
  int : I64 pr.en
theorem keeps_Pr : Keeps PrR := fun _ _ _ _ e r => ⟨r.len, by obtain ⟨c, h1, h2⟩ := r.steps; exact ⟨c, h1, h2.ext keeps_Stp e⟩, r.en, r.key, r.value, r.p, r.left, r.right, r.lens, r.int⟩
structure SgR (h : Heap) (cs : List Value) (s : Sg) : Prop where
  len : cs.length = 67
  epoch : cs[0]? = some (.int .i64 s.epoch)
  tick : cs[1]? = some (.int .i64 s.tick)
  tree : (cs.drop 2).take 32 = bcs s.tree
  log : (cs.drop 34).take 32 = bcs s.log
  sig : ∃ c, cs[66]? = some c ∧ TxtR h c s.sig
  lens : s.tree.length = 32 ∧ s.log.length = 32
  ints : I64 s.epoch ∧ I64 s.tick
theorem keeps_Sg : Keeps SgR := fun _ _ _ _ e r => ⟨r.len, r.epoch, r.tick, r.tree, r.log, by obtain ⟨c, h1, h2⟩ := r.sig; exact ⟨c, h1, h2.ext e⟩, r.lens, r.ints⟩
def TrR : Rel Trl := fun h cs t => ∃ c d, cs = [c, d] ∧ LsR 32 HashR h c t.ahead ∧ LsR 32 HashR h d t.behind
theorem keeps_Tr : Keeps TrR := fun _ _ _ _ e ⟨c, d, h1, h2, h3⟩ => ⟨c, d, h1, h2.ext keeps_Hash e, h3.ext keeps_Hash e⟩
structure MsR (h : Heap) (cs : List Value) (m : Ms) : Prop where
  len : cs.length = 279
  kind : cs[0]? = some (.int .i64 m.kind)
  src : cs[1]? = some (.int .i64 m.src)
  dst : cs[2]? = some (.int .i64 m.dst)
  seq : cs[3]? = some (.int .i64 m.seq)
  epoch : cs[4]? = some (.int .i64 m.epoch)
  known : cs[5]? = some (.int .i64 m.known)
  err : cs[6]? = some (.int .i64 m.err)
  label : ∃ c, cs[7]? = some c ∧ TxtR h c m.label
  value : ∃ c, cs[8]? = some c ∧ TxtR h c m.value
  sg : SgR h ((cs.drop 9).take 67) m.sg
  growth : TrR h ((cs.drop 76).take 2) m.growth
  place : TrR h ((cs.drop 78).take 2) m.place
  tree : (cs.drop 80).take 32 = bcs m.tree
  treeLen : m.tree.length = 32
  proof : PrR h ((cs.drop 112).take 163) m.proof
  chain : ∃ c, cs[275]? = some c ∧ LsR 67 VrR h c m.chain
  rows : ∃ c, cs[276]? = some c ∧ LsR 162 RwR h c m.rows
  news : ∃ c, cs[277]? = some c ∧ LsR 68 NwR h c m.news
  trees : ∃ c, cs[278]? = some c ∧ LsR 32 HashR h c m.trees
  ints : I64 m.kind ∧ I64 m.src ∧ I64 m.dst ∧ I64 m.seq ∧ I64 m.epoch ∧ I64 m.known ∧ I64 m.err
  ones : ones cs
theorem keeps_Ms : Keeps MsR := fun h h' cs m e r => by
  obtain ⟨c1, a1, b1⟩ := r.label
  obtain ⟨c2, a2, b2⟩ := r.value
  obtain ⟨c3, a3, b3⟩ := r.chain
  obtain ⟨c4, a4, b4⟩ := r.rows
  obtain ⟨c5, a5, b5⟩ := r.news
  obtain ⟨c6, a6, b6⟩ := r.trees
  exact ⟨r.len, r.kind, r.src, r.dst, r.seq, r.epoch, r.known, r.err, ⟨c1, a1, b1.ext e⟩, ⟨c2, a2, b2.ext e⟩, keeps_Sg _ _ _ _ e r.sg, keeps_Tr _ _ _ _ e r.growth, keeps_Tr _ _ _ _ e r.place, r.tree, r.treeLen,
    keeps_Pr _ _ _ _ e r.proof, ⟨c3, a3, b3.ext keeps_Vr e⟩, ⟨c4, a4, b4.ext keeps_Rw e⟩, ⟨c5, a5, b5.ext keeps_Nw e⟩, ⟨c6, a6, b6.ext keeps_Hash e⟩, r.ints, r.ones⟩

/- ### A writer that is spoiled, or has some bytes -/
def Wst : OB → Bytes → Bool → Prop
  | some x, bs, sp => sp = false ∧ bs = x
  | none, _, sp => sp = true
def Wo (b : Nat) (o : OB) (N : Nat) : HP := fun m => ∃ bs sp, (bs.length ≤ N ∧ Wst o bs sp) ∧ W b bs sp m
section
variable {h0 h : Heap} {F : List HP} {b N : Nat} {o : OB}
theorem Wo.op (hs : St h0 h (Wo b o N :: F)) : ∃ bs sp, bs.length ≤ N ∧ Wst o bs sp ∧ St h0 h (W b bs sp :: F) := by
  obtain ⟨bs, hs⟩ := St.ex hs
  obtain ⟨sp, hs⟩ := St.ex hs
  obtain ⟨h1, hs⟩ := hs.and
  exact ⟨bs, sp, h1.1, h1.2, hs⟩
theorem Wo.cl {bs : Bytes} {sp : Bool} (hs : St h0 h (W b bs sp :: F)) (h1 : bs.length ≤ N) (h2 : Wst o bs sp) : St h0 h (Wo b o N :: F) := hs.impl fun m q => ⟨bs, sp, ⟨h1, h2⟩, q⟩
theorem Wo.mono {M : Nat} (hs : St h0 h (Wo b o N :: F)) (h1 : N ≤ M) : St h0 h (Wo b o M :: F) := hs.impl fun m ⟨bs, sp, ⟨h2, h3⟩, q⟩ => ⟨bs, sp, ⟨by omega, h3⟩, q⟩
theorem wo_put {f : Nat} {args : Array Value} {e : OB} {k : Nat} (hs : St h0 h (Wo b o N :: F)) (hk : ∀ xs, e = some xs → xs.length ≤ k)
    (H : ∀ bs sp, bs.length ≤ N → St h0 h (W b bs sp :: F) → CallsH Tryz.prog f args h (Put h0 F b bs sp e)) : CallsH Tryz.prog f args h fun v h' => v = unit ∧ St h0 h' (Wo b (app o e) (N + k) :: F) := by
  obtain ⟨bs, sp, h1, h2, s⟩ := Wo.op hs
  refine (H bs sp h1 s).mono fun v h' ⟨hv, s⟩ => ⟨hv, ?_⟩
  cases o with
  | none =>
    have h2 : sp = true := h2
    subst h2
    rw [none_app]
    exact Wo.cl s (by show bs.length ≤ N + k; omega) rfl
  | some x =>
    obtain ⟨rfl, rfl⟩ : sp = false ∧ bs = x := h2
    cases e with
    | none => exact Wo.cl s (by show bs.length ≤ N + k; omega) rfl
    | some y =>
      have := hk y rfl
      exact Wo.cl (o := some (bs ++ y)) s (by show (bs ++ y).length ≤ N + k; rw [List.length_append]; omega) ⟨rfl, rfl⟩
end
end Go.Proofs.YthlmiijlhiiccaaGreat
