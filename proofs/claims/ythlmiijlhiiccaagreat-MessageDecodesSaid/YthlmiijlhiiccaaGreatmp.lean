/- Layer 18: what a message's bytes are, and how they are taken apart (no program in sight). -/
import Derived.Test.YthlmiijlhiiccaaGreatL3
import Derived.Test.YthlmiijlhiiccaaGreatL1
import Derived.Test.YthlmiijlhiiccaaGreatSk
set_option linter.unusedVariables false
set_option maxRecDepth 100000
namespace Go.Proofs.YthlmiijlhiiccaaGreat
open Go Go.Vc Go.Proofs Go.Vc.Keys
abbrev Bytes := List UInt8
structure Pf where
  len : Int
  bits : Bytes
structure Stp where
  p : Pf
  other : Bytes
structure Vr where
  num : Int
  ep : Int
  salt : Bytes
  before : Bytes
  value : Bytes
structure Rw where
  leaf : Bool
  key : Bytes
  value : Bytes
  p : Pf
  left : Bytes
  right : Bytes
structure Nw where
  label : Bytes
  v : Vr
structure Prf where
  steps : List Stp
  en : Int
  key : Bytes
  value : Bytes
  p : Pf
  left : Bytes
  right : Bytes
structure Sg where
  epoch : Int
  tick : Int
  tree : Bytes
  log : Bytes
  sig : Bytes
structure Trl where
  ahead : List Bytes
  behind : List Bytes
structure Ms where
  kind : Int
  src : Int
  dst : Int
  seq : Int
  epoch : Int
  known : Int
  err : Int
  label : Bytes
  value : Bytes
  sg : Sg
  growth : Trl
  place : Trl
  tree : Bytes
  proof : Prf
  chain : List Vr
  rows : List Rw
  news : List Nw
  trees : List Bytes

/- ### What is put -/
abbrev OB := Option Bytes
def app : OB → OB → OB
  | some a, some b => some (a ++ b)
  | _, _ => none
theorem app_assoc (a b c : OB) : app (app a b) c = app a (app b c) := by cases a <;> cases b <;> cases c <;> simp [app]
theorem app_none (a : OB) : app a none = none := by cases a <;> rfl
theorem none_app (a : OB) : app none a = none := by cases a <;> rfl
theorem app_nil (a : OB) : app a (some []) = a := by cases a <;> simp [app]
theorem nil_app (a : OB) : app (some []) a = a := by cases a <;> simp [app]
theorem app_some {a b : OB} {e : Bytes} (h : app a b = some e) : ∃ x y, a = some x ∧ b = some y ∧ e = x ++ y := by
  cases a <;> cases b <;> simp [app] at h
  exact ⟨_, _, rfl, rfl, h.symm⟩
def encI (k : Nat) (lo hi n : Int) : OB := if lo ≤ n ∧ n ≤ hi then some (numB n.toNat k) else none
def encN (n : Int) : OB := encI 4 0 2147483647 n
def encE (n : Int) : OB := encI 1 0 13 n
def encT (b : Bytes) : OB := if b.length ≤ 64 then some (numB b.length 2 ++ b) else none
def encH (b : Bytes) : OB := if b.length = 32 then some b else none
def encs {α : Type} (f : α → OB) : List α → OB
  | [] => some []
  | x :: xs => app (f x) (encs f xs)
def encL {α : Type} (f : α → OB) (xs : List α) : OB := app (if xs.length ≤ 4096 then some (numB xs.length 2) else none) (encs f xs)
def encP (p : Pf) : OB := if Formed p.len p.bits then app (some (numB p.len.toNat 2)) (encH p.bits) else none
def encS (s : Stp) : OB := app (encP s.p) (encH s.other)
def encPr (p : Prf) : OB := app (encL encS p.steps)
  (if p.en = 0 then some (numB 0 1) else if p.en = 1 then app (some (numB 1 1)) (app (encH p.key) (encH p.value)) else if p.en = 2 then app (some (numB 2 1)) (app (encP p.p) (app (encH p.left) (encH p.right))) else none)
def encV (v : Vr) : OB := app (encN v.num) (app (encN v.ep) (app (encH v.salt) (app (encH v.before) (encT v.value))))
def encR (r : Rw) : OB := if r.leaf then app (some (numB 1 1)) (app (encH r.key) (encH r.value)) else app (some (numB 0 1)) (app (encP r.p) (app (encH r.left) (encH r.right)))
def encW (n : Nw) : OB := app (encT n.label) (encV n.v)
def headOk (s : Sg) : Prop := 1 ≤ s.epoch ∧ s.epoch ≤ 2147483647 ∧ 1 ≤ s.tick ∧ s.tick ≤ 2147483647
instance (s : Sg) : Decidable (headOk s) := inferInstanceAs (Decidable (_ ∧ _ ∧ _ ∧ _))
def encG (s : Sg) : OB := app (if headOk s then app (some (numB s.epoch.toNat 4)) (app (some (numB s.tick.toNat 4)) (app (encH s.tree) (encH s.log))) else none) (if s.sig.length ≤ 8192 then some (numB s.sig.length 2 ++ s.sig) else none)
def encTr (t : Trl) : OB := app (encL encH t.ahead) (encL encH t.behind)
/-- A field's bytes; the fields by their numbers. -/
def encF (m : Ms) : Nat → OB
  | 0 => encN m.src
  | 1 => encN m.dst
  | 2 => encN m.seq
  | 3 => encN m.epoch
  | 4 => encN m.known
  | 5 => encE m.err
  | 6 => encT m.label
  | 7 => encT m.value
  | 8 => encG m.sg
  | 9 => encTr m.growth
  | 10 => encTr m.place
  | 11 => encH m.tree
  | 12 => encPr m.proof
  | 13 => encL encV m.chain
  | 14 => encL encR m.rows
  | 15 => encL encW m.news
  | 16 => encL encH m.trees
  | _ => some []
def fieldsK (k : Int) : List Nat :=
  if k = 1 then [0, 1, 2, 6, 7] else if k = 2 then [0, 1, 2, 3, 5] else if k = 3 then [0, 1, 2, 3, 4, 6] else if k = 4 then [0, 1, 2, 3, 4, 5, 8, 9, 10, 11, 12, 13]
  else if k = 5 then [0, 1, 8, 14, 15] else if k = 6 then [0, 1, 3, 4] else if k = 7 then [0, 1] else if k = 8 then [0, 1, 8, 15, 16] else []
def stopsM (m : Ms) (f : Nat) : Bool := m.kind == 4 && (f == 8 && m.err != 0)
def encFs (m : Ms) : List Nat → OB
  | [] => some []
  | f :: fs => if stopsM m f then some [] else app (encF m f) (encFs m fs)
def encM (m : Ms) : OB := if fieldsK m.kind = [] then none else app (encI 1 0 255 m.kind) (encFs m (fieldsK m.kind))

/- ### What is taken: the value, what is left, whether the reader fails -/
abbrev Dec (α : Type) := Bytes → Bool → α × Bytes × Bool
def zeroPf : Pf := ⟨0, zeros⟩
def zeroVr : Vr := ⟨0, 0, zeros, zeros, []⟩
def zeroSg : Sg := ⟨0, 0, zeros, zeros, []⟩
def zeroPrf : Prf := ⟨[], 0, zeros, zeros, zeroPf, zeros, zeros⟩
def zeroRw : Rw := ⟨false, zeros, zeros, zeroPf, zeros, zeros⟩
def zeroMs : Ms := ⟨0, 0, 0, 0, 0, 0, 0, [], [], zeroSg, ⟨[], []⟩, ⟨[], []⟩, zeros, zeroPrf, [], [], [], []⟩
def decI (k : Nat) (hi : Int) : Dec Int := fun bs f => if hi < (numR bs f k).1 then (0, (numR bs f k).2.1, true) else ((numR bs f k).1, (numR bs f k).2)
def decN : Dec Int := decI 4 2147483647
def decE : Dec Int := decI 1 13
def decT : Dec Bytes := fun bs f => strR bs f 64
def decH : Dec Bytes := fun bs f => (if (takeR bs f 32).1.length = 32 then (takeR bs f 32).1 else zeros, (takeR bs f 32).2)
def decIt {α : Type} (d : Dec α) : Nat → List α → Dec (List α)
  | 0, acc => fun bs f => (acc, bs, f)
  | n + 1, acc => fun bs f => if (d bs f).2.2 then ([], (d bs f).2) else decIt d n (acc ++ [(d bs f).1]) (d bs f).2.1 (d bs f).2.2
def decL {α : Type} (d : Dec α) : Dec (List α) := fun bs f => decIt d (countR bs f 4096).1 [] (countR bs f 4096).2.1 (countR bs f 4096).2.2
/-- One behind the other. -/
def andD {α β γ : Type} (d : Dec α) (g : α → Dec β) (k : α → β → γ) : Dec γ := fun bs f => (k (d bs f).1 (g (d bs f).1 (d bs f).2.1 (d bs f).2.2).1, (g (d bs f).1 (d bs f).2.1 (d bs f).2.2).2)
def decP : Dec Pf := fun bs f =>
  if Formed (numR bs f 2).1 (decH (numR bs f 2).2.1 (numR bs f 2).2.2).1 then (⟨(numR bs f 2).1, (decH (numR bs f 2).2.1 (numR bs f 2).2.2).1⟩, (decH (numR bs f 2).2.1 (numR bs f 2).2.2).2)
  else (zeroPf, (decH (numR bs f 2).2.1 (numR bs f 2).2.2).2.1, true)
def decS : Dec Stp := andD decP (fun _ => decH) Stp.mk
/-- What stands behind a proof's steps. -/
def decEnd (steps : List Stp) : Dec Prf := fun bs f =>
  let en : Int := (numR bs f 1).1
  let z : Prf := { zeroPrf with steps := steps, en := en }
  if en = 0 then (z, (numR bs f 1).2)
  else if en = 1 then andD decH (fun _ => decH) (fun k v => { z with key := k, value := v }) (numR bs f 1).2.1 (numR bs f 1).2.2
  else if en = 2 then andD decP (fun _ => andD decH (fun _ => decH) Prod.mk) (fun p lr => { z with p := p, left := lr.1, right := lr.2 }) (numR bs f 1).2.1 (numR bs f 1).2.2
  else (z, (numR bs f 1).2.1, true)
def decPr : Dec Prf := andD (decL decS) decEnd fun _ p => p
def decV : Dec Vr := andD decN (fun _ => andD decN (fun _ => andD decH (fun _ => andD decH (fun _ => decT) Prod.mk) Prod.mk) Prod.mk) fun a r => ⟨a, r.1, r.2.1, r.2.2.1, r.2.2.2⟩
def decR : Dec Rw := fun bs f =>
  if (flagR bs f).1 then andD decH (fun _ => decH) (fun k v => { zeroRw with leaf := true, key := k, value := v }) (flagR bs f).2.1 (flagR bs f).2.2
  else andD decP (fun _ => andD decH (fun _ => decH) Prod.mk) (fun p lr => { zeroRw with p := p, left := lr.1, right := lr.2 }) (flagR bs f).2.1 (flagR bs f).2.2
def decW : Dec Nw := andD decT (fun _ => decV) Nw.mk
/-- The head that 72 bytes are. -/
def headB18 (b : Bytes) : Sg := ⟨valB (b.take 4), valB ((b.drop 4).take 4), (b.drop 8).take 32, b.drop 40, []⟩
def decG : Dec Sg := fun bs f =>
  if (takeR bs f 72).1.length = 72 ∧ headOk (headB18 (takeR bs f 72).1) then
    (if (strR (takeR bs f 72).2.1 (takeR bs f 72).2.2 8192).2.2 then (zeroSg, (strR (takeR bs f 72).2.1 (takeR bs f 72).2.2 8192).2)
     else ({ headB18 (takeR bs f 72).1 with sig := (strR (takeR bs f 72).2.1 (takeR bs f 72).2.2 8192).1 }, (strR (takeR bs f 72).2.1 (takeR bs f 72).2.2 8192).2))
  else (zeroSg, (takeR bs f 72).2.1, true)
def decTr : Dec Trl := andD (decL decH) (fun _ => decL decH) Trl.mk
def mapD {α β : Type} (d : Dec α) (k : α → β) : Dec β := fun bs f => (k (d bs f).1, (d bs f).2)
def decF (m : Ms) : Nat → Dec Ms
  | 0 => mapD decN fun x => { m with src := x }
  | 1 => mapD decN fun x => { m with dst := x }
  | 2 => mapD decN fun x => { m with seq := x }
  | 3 => mapD decN fun x => { m with epoch := x }
  | 4 => mapD decN fun x => { m with known := x }
  | 5 => mapD decE fun x => { m with err := x }
  | 6 => mapD decT fun x => { m with label := x }
  | 7 => mapD decT fun x => { m with value := x }
  | 8 => mapD decG fun x => { m with sg := x }
  | 9 => mapD decTr fun x => { m with growth := x }
  | 10 => mapD decTr fun x => { m with place := x }
  | 11 => mapD decH fun x => { m with tree := x }
  | 12 => mapD decPr fun x => { m with proof := x }
  | 13 => mapD (decL decV) fun x => { m with chain := x }
  | 14 => mapD (decL decR) fun x => { m with rows := x }
  | 15 => mapD (decL decW) fun x => { m with news := x }
  | 16 => mapD (decL decH) fun x => { m with trees := x }
  | _ => fun bs f => (m, bs, f)
def decFs : List Nat → Ms → Dec Ms
  | [], m => fun bs f => (m, bs, f)
  | i :: is, m => fun bs f => if stopsM m i then (m, bs, f) else decFs is (decF m i bs f).1 (decF m i bs f).2.1 (decF m i bs f).2.2
def decM (b : Bytes) : Option Ms :=
  if fieldsK (numR b false 1).1 = [] then none
  else if (decFs (fieldsK (numR b false 1).1) { zeroMs with kind := (numR b false 1).1 } (numR b false 1).2.1 (numR b false 1).2.2).2 = ([], false)
  then some (decFs (fieldsK (numR b false 1).1) { zeroMs with kind := (numR b false 1).1 } (numR b false 1).2.1 (numR b false 1).2.2).1 else none

/- ### What is put is taken, and what is taken was put -/
structure Good {α : Type} (e : α → OB) (d : Dec α) (b : α → α) : Prop where
  sound : ∀ bs x rest, d bs false = (x, rest, false) → ∃ y, e x = some y ∧ bs = y ++ rest
  full : ∀ x y rest, e x = some y → d (y ++ rest) false = (b x, rest, false)
  fails : ∀ bs, (d bs true).2.2 = true
theorem Good.bare {α : Type} {e : α → OB} {d : Dec α} {b : α → α} (g : Good e d b) {bs : Bytes} {x : α} {rest : Bytes} (h : d bs false = (x, rest, false)) : b x = x := by
  obtain ⟨y, h1, h2⟩ := g.sound _ _ _ h
  have := g.full _ _ rest h1
  rw [← h2, h] at this
  exact (congrArg Prod.fst this).symm
theorem m_valB_cons (b : UInt8) (bs : Bytes) : valB (b :: bs) = b.toNat * 256 ^ bs.length + valB bs := by
  have key : ∀ (bs : Bytes) (a : Nat), bs.foldl (fun x b => x * 256 + b.toNat) a = a * 256 ^ bs.length + valB bs := by
    intro bs
    induction bs with
    | nil => intro a; simp [valB]
    | cons b bs ih =>
      intro a
      have h2 := ih (0 * 256 + b.toNat)
      have h3 : valB (b :: bs) = (0 * 256 + b.toNat) * 256 ^ bs.length + valB bs := h2
      rw [List.foldl_cons, ih, h3, List.length_cons, Nat.pow_succ, Nat.add_mul, Nat.zero_mul, Nat.zero_add, Nat.mul_assoc, Nat.mul_comm 256 (256 ^ bs.length), Nat.add_assoc]
  have := key bs (0 * 256 + b.toNat)
  rw [Nat.zero_mul, Nat.zero_add] at this
  show List.foldl _ (0 * 256 + b.toNat) bs = _
  rw [Nat.zero_mul, Nat.zero_add]
  exact this
theorem m_valB_numB (x : Nat) : ∀ n, valB (numB x n) = x % 256 ^ n
  | 0 => by simp [numB, valB, Nat.mod_one]
  | n + 1 => by
    have h : numB x (n + 1) = dg x n :: numB x n := rfl
    have hm : x % 256 ^ (n + 1) = x % 256 ^ n + 256 ^ n * (x / 256 ^ n % 256) := Nat.mod_pow_succ
    have hd : (dg x n).toNat = x / 256 ^ n % 256 := by rw [dg, UInt8.toNat_ofNat']
    rw [h, m_valB_cons, numB_length, m_valB_numB x n, hd, hm, Nat.mul_comm, Nat.add_comm]
theorem m_take_num (x n : Nat) (rest : Bytes) : (numB x n ++ rest).take n = numB x n := by rw [List.take_append_of_le_length (by rw [numB_length]; exact Nat.le_refl _), List.take_of_length_le (by rw [numB_length]; exact Nat.le_refl _)]
theorem m_drop_num (x n : Nat) (rest : Bytes) : (numB x n ++ rest).drop n = rest := by rw [List.drop_append, List.drop_of_length_le (by rw [numB_length]; exact Nat.le_refl _), numB_length, Nat.sub_self]; rfl
theorem numB_valB : ∀ bs : Bytes, numB (valB bs) bs.length = bs
  | [] => rfl
  | b :: bs => by
    have h : numB (valB (b :: bs)) (bs.length + 1) = dg (valB (b :: bs)) bs.length :: numB (valB (b :: bs)) bs.length := rfl
    have hv := m_valB_cons b bs
    have hl := valB_lt bs
    have e1 : dg (valB (b :: bs)) bs.length = b := by
      apply UInt8.toNat_inj.1
      rw [dg, UInt8.toNat_ofNat', hv, Nat.mul_comm, Nat.mul_add_div (Nat.pow_pos (by omega)), Nat.div_eq_of_lt hl, Nat.add_zero]
      exact Nat.mod_eq_of_lt (u8_lt b)
    have e2 : ∀ n x y, n ≤ bs.length → x % 256 ^ bs.length = y % 256 ^ bs.length → numB x n = numB y n := by
      intro n
      induction n with
      | zero => intros; rfl
      | succ n ih =>
        intro x y hn hxy
        show dg x n :: numB x n = dg y n :: numB y n
        rw [ih x y (by omega) hxy]
        congr 1
        apply UInt8.toNat_inj.1
        rw [dg, dg, UInt8.toNat_ofNat', UInt8.toNat_ofNat']
        have key : ∀ z : Nat, z / 256 ^ n % 256 = (z % 256 ^ bs.length) / 256 ^ n % 256 := by
          intro z
          obtain ⟨k, hk⟩ : ∃ k, bs.length = n + 1 + k := ⟨bs.length - (n + 1), by omega⟩
          rw [hk]
          have h1 : z % 256 ^ (n + 1) = (z % 256 ^ (n + 1 + k)) % 256 ^ (n + 1) := (Nat.mod_mod_of_dvd z (Nat.pow_dvd_pow 256 (by omega))).symm
          have m1 : ∀ w : Nat, w / 256 ^ n % 256 = w % 256 ^ (n + 1) / 256 ^ n := fun w => by rw [Nat.pow_succ, Nat.mod_mul_right_div_self]
          rw [m1, m1, h1]
        show x / 256 ^ n % 256 = y / 256 ^ n % 256
        rw [key x, key y, hxy]
    have e3 : numB (valB (b :: bs)) bs.length = bs := by
      rw [e2 bs.length _ (valB bs) (Nat.le_refl _) (by rw [hv, Nat.mul_comm, Nat.mul_add_mod]), numB_valB bs]
    rw [List.length_cons, h, e1, e3]
theorem numR_num {x n : Nat} (rest : Bytes) (hx : x < 256 ^ n) : numR (numB x n ++ rest) false n = (x, rest, false) := by
  rw [numR, if_pos ⟨rfl, by rw [List.length_append, numB_length]; omega⟩, m_take_num, m_drop_num, m_valB_numB, Nat.mod_eq_of_lt hx]
theorem numR_was {bs rest : Bytes} {x n : Nat} (h : numR bs false n = (x, rest, false)) : bs = numB x n ++ rest ∧ x < 256 ^ n := by
  unfold numR at h
  split at h
  · rename_i hc
    cases h
    have hl : (bs.take n).length = n := by rw [List.length_take]; omega
    have := numB_valB (bs.take n)
    rw [hl] at this
    rw [this, List.take_append_drop]
    exact ⟨rfl, by have := valB_lt (bs.take n); rwa [hl] at this⟩
  · cases h
end Go.Proofs.YthlmiijlhiiccaaGreat
