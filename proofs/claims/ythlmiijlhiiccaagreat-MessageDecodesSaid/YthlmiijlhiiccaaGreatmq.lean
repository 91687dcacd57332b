/- Layer 18: what is put is taken, part by part (no program in sight). -/
import Derived.Test.YthlmiijlhiiccaaGreatmp
set_option linter.unusedVariables false
set_option maxRecDepth 100000
namespace Go.Proofs.YthlmiijlhiiccaaGreat
open Go Go.Vc Go.Proofs Go.Vc.Keys
theorem Good.congr {α : Type} {e e' : α → OB} {d d' : Dec α} {b b' : α → α} (g : Good e d b) (h1 : ∀ x, e x = e' x) (h2 : d = d') (h3 : ∀ x, b x = b' x) : Good e' d' b' := by
  obtain rfl : e = e' := funext h1
  obtain rfl : b = b' := funext h3
  subst h2; exact g
theorem eta2 {α : Type} {r : α × Bytes × Bool} {x : Bytes} {t : Bool} (h : r.2 = (x, t)) : r = (r.1, x, t) := by rw [← h]
theorem eta3 {α : Type} {r : α × Bytes × Bool} {t : Bool} (h : r.2.2 = t) : r = (r.1, r.2.1, t) := by rw [← h]
theorem good_int {k : Nat} {hi : Int} (h0 : 0 ≤ hi) (h1 : hi < (256 ^ k : Nat)) : Good (encI k 0 hi) (decI k hi) id := by
  refine ⟨fun bs x rest h => ?_, fun x y rest h => ?_, fun bs => ?_⟩
  · unfold decI at h
    split at h
    · cases h
    · rename_i hc
      obtain ⟨e1, e2⟩ := Prod.mk.inj h
      obtain ⟨e3, e4⟩ := Prod.mk.inj e2
      have hw : numR bs false k = ((numR bs false k).1, rest, false) := eta2 e2
      obtain ⟨w1, w2⟩ := numR_was hw
      refine ⟨_, ?_, w1⟩
      unfold encI
      rw [if_pos (by omega), ← e1]
      rfl
  · unfold encI at h
    split at h
    · rename_i hc
      cases h
      unfold decI
      have hn := numR_num (x := x.toNat) (n := k) rest (by omega)
      rw [hn, if_neg (by dsimp only; omega)]
      have : ((x.toNat : Nat) : Int) = x := by omega
      dsimp only
      rw [this]; rfl
    · cases h
  · unfold decI
    rw [numR_true]
    split <;> rfl
theorem good_N : Good encN decN id := good_int (by omega) (by decide)
theorem good_E : Good encE decE id := good_int (by omega) (by decide)
theorem numR2_lt (bs : Bytes) : valB (bs.take 2) < 65536 := by
  have := valB_le (bs := bs.take 2) (n := 2) (by rw [List.length_take]; omega)
  simpa using this
theorem good_str {most : Int} {top : Nat} (h0 : top ≤ 8192) (h1 : most = top) : Good (fun b : Bytes => if b.length ≤ top then some (numB b.length 2 ++ b) else none) (fun bs f => strR bs f most) id := by
  subst h1
  refine ⟨fun bs x rest h => ?_, fun x y rest h => ?_, fun bs => ?_⟩
  · unfold strR at h
    split at h
    · rename_i hc
      obtain ⟨_, c2, c3, c4, c5⟩ := hc
      cases h
      have hl : ((bs.drop 2).take (valB (bs.take 2))).length = valB (bs.take 2) := by rw [List.length_take, List.length_drop]; omega
      refine ⟨_, by rw [hl, if_pos (by omega)], ?_⟩
      have h2 := numB_valB (bs.take 2)
      rw [show (bs.take 2).length = 2 by rw [List.length_take]; omega] at h2
      rw [h2, List.append_assoc, ← List.drop_drop, List.take_append_drop, List.take_append_drop]
    · cases h
  · split at h
    · rename_i hc
      cases h
      have e1 : (numB x.length 2 ++ x ++ rest).take 2 = numB x.length 2 := by rw [List.append_assoc, m_take_num]
      have e2 : (numB x.length 2 ++ x ++ rest).drop 2 = x ++ rest := by rw [List.append_assoc, m_drop_num]
      have ev : valB (numB x.length 2) = x.length := by rw [m_valB_numB, Nat.mod_eq_of_lt (by omega)]
      unfold strR
      rw [e1, ev, if_pos ⟨rfl, by simp [numB_length] <;> omega, by omega, by omega, by simp [numB_length] <;> omega⟩, e2, ← List.drop_drop, e2, List.take_append_of_le_length (Nat.le_refl _), List.take_length,
        List.drop_append, List.drop_of_length_le (Nat.le_refl _), Nat.sub_self]
      first | done | rfl
    · cases h
  · unfold strR
    rw [if_neg (by simp)]
theorem good_T : Good encT decT id := good_str (top := 64) (by omega) rfl
theorem takeR_was {bs x rest : Bytes} {n : Nat} (h : takeR bs false n = (x, rest, false)) : bs = x ++ rest ∧ x.length = n := by
  unfold takeR at h
  split at h
  · rename_i hc
    cases h
    rw [Int.toNat_natCast]
    exact ⟨(List.take_append_drop n bs).symm, by rw [List.length_take]; omega⟩
  · cases h
theorem takeR_full {x rest : Bytes} : takeR (x ++ rest) false (x.length : Nat) = (x, rest, false) := by
  unfold takeR
  rw [if_pos ⟨rfl, by omega, by simp; omega⟩, Int.toNat_natCast, List.take_append_of_le_length (Nat.le_refl _), List.take_length, List.drop_append, List.drop_of_length_le (Nat.le_refl _), Nat.sub_self]
  rfl
theorem takeR_true (bs : Bytes) (n : Int) : takeR bs true n = ([], bs, true) := by unfold takeR; rw [if_neg (by simp)]
theorem good_H : Good encH decH id := by
  refine ⟨fun bs x rest h => ?_, fun x y rest h => ?_, fun bs => ?_⟩
  · unfold decH at h
    obtain ⟨e1, e2⟩ := Prod.mk.inj h
    have hw : takeR bs false (32 : Nat) = ((takeR bs false 32).1, rest, false) := eta2 (by exact e2)
    obtain ⟨w1, w2⟩ := takeR_was hw
    rw [if_pos w2] at e1
    subst e1
    exact ⟨_, by unfold encH; rw [if_pos w2], w1⟩
  · unfold encH at h
    split at h
    · rename_i hl
      cases h
      have := takeR_full (x := x) (rest := rest)
      rw [hl] at this
      have this : takeR (x ++ rest) false 32 = (x, rest, false) := this
      unfold decH
      rw [this, if_pos hl]; rfl
    · cases h
  · unfold decH
    rw [takeR_true]
theorem Good.and {α β γ : Type} {e1 : α → OB} {d1 : Dec α} {b1 : α → α} {e2 : β → OB} {d2 : Dec β} {b2 : β → β} (g1 : Good e1 d1 b1) (g2 : Good e2 d2 b2) (k : α → β → γ) (p1 : γ → α) (p2 : γ → β) (h1 : ∀ a b, p1 (k a b) = a) (h2 : ∀ a b, p2 (k a b) = b) :
    Good (fun z => app (e1 (p1 z)) (e2 (p2 z))) (andD d1 (fun _ => d2) k) (fun z => k (b1 (p1 z)) (b2 (p2 z))) := by
  refine ⟨fun bs x rest h => ?_, fun x y rest h => ?_, fun bs => ?_⟩
  · unfold andD at h
    obtain ⟨c1, c2⟩ := Prod.mk.inj h
    have hf : (d1 bs false).2.2 = false := by
      cases hh : (d1 bs false).2.2
      · rfl
      · rw [hh] at c2
        have := g2.fails (d1 bs false).2.1
        rw [c2] at this; cases this
    rw [hf] at c1 c2
    have w1 : d1 bs false = ((d1 bs false).1, (d1 bs false).2.1, false) := eta3 hf
    have w2 : d2 (d1 bs false).2.1 false = ((d2 (d1 bs false).2.1 false).1, rest, false) := eta2 c2
    obtain ⟨y1, q1, r1⟩ := g1.sound _ _ _ w1
    obtain ⟨y2, q2, r2⟩ := g2.sound _ _ _ w2
    refine ⟨y1 ++ y2, ?_, by rw [r1, r2, List.append_assoc]⟩
    rw [← c1, h1, h2, q1, q2]; rfl
  · obtain ⟨y1, y2, q1, q2, q3⟩ := app_some h
    subst q3
    unfold andD
    rw [List.append_assoc, g1.full _ _ _ q1]
    dsimp only
    rw [g2.full _ _ _ q2]
  · unfold andD
    have h := g1.fails bs
    dsimp only
    rw [h]
    exact g2.fails _
theorem decIt_sound {α : Type} {e : α → OB} {d : Dec α} {b : α → α} (g : Good e d b) : ∀ (n : Nat) (acc : List α) (bs rest : Bytes) (xs : List α), decIt d n acc bs false = (xs, rest, false) → ∃ ys y, xs = acc ++ ys ∧ ys.length = n ∧ encs e ys = some y ∧ bs = y ++ rest
  | 0, acc, bs, rest, xs, h => by
    cases h
    exact ⟨[], [], by simp, rfl, rfl, rfl⟩
  | n + 1, acc, bs, rest, xs, h => by
    unfold decIt at h
    split at h
    · rename_i hc
      have := congrArg (fun r => r.2.2) h
      dsimp only at this
      rw [hc] at this; cases this
    · rename_i hc
      have hf : (d bs false).2.2 = false := by simpa using hc
      rw [hf] at h
      obtain ⟨ys, y, q1, q2, q3, q4⟩ := decIt_sound g n _ _ _ _ h
      obtain ⟨y0, r1, r2⟩ := g.sound bs (d bs false).1 (d bs false).2.1 (eta3 hf)
      refine ⟨(d bs false).1 :: ys, y0 ++ y, by rw [q1]; simp, by simp [q2], ?_, by rw [r2, q4, List.append_assoc]⟩
      rw [encs, r1, q3]; rfl
theorem decIt_full {α : Type} {e : α → OB} {d : Dec α} {b : α → α} (g : Good e d b) : ∀ (xs acc : List α) (y rest : Bytes), encs e xs = some y → decIt d xs.length acc (y ++ rest) false = (acc ++ xs.map b, rest, false)
  | [], acc, y, rest, h => by
    cases h
    simp [decIt]
  | x :: xs, acc, y, rest, h => by
    obtain ⟨y1, y2, q1, q2, q3⟩ := app_some h
    subst q3
    rw [List.length_cons, decIt, List.append_assoc]
    dsimp only
    rw [g.full _ _ _ q1, if_neg (by simp)]
    dsimp only
    rw [decIt_full g xs _ _ _ q2]
    simp
theorem decIt_fails {α : Type} {e : α → OB} {d : Dec α} {b : α → α} (g : Good e d b) (bs : Bytes) : ∀ (n : Nat) (acc : List α), (decIt d n acc bs true).2.2 = true
  | 0, acc => rfl
  | n + 1, acc => by
    have := g.fails bs
    unfold decIt
    rw [if_pos this]
    exact this
theorem good_L {α : Type} {e : α → OB} {d : Dec α} {b : α → α} (g : Good e d b) : Good (encL e) (decL d) (List.map b) := by
  refine ⟨fun bs x rest h => ?_, fun x y rest h => ?_, fun bs => ?_⟩
  · unfold decL countR at h
    split at h
    · rename_i hc
      obtain ⟨_, c2, c3, c4⟩ := hc
      dsimp only at h
      obtain ⟨ys, y, q1, q2, q3, q4⟩ := decIt_sound g _ _ _ _ _ h
      rw [List.nil_append] at q1
      subst q1
      have h2 := numB_valB (bs.take 2)
      rw [show (bs.take 2).length = 2 by rw [List.length_take]; omega] at h2
      refine ⟨numB x.length 2 ++ y, ?_, ?_⟩
      · unfold encL
        rw [if_pos (by omega), q3]; rfl
      · rw [q2, h2, List.append_assoc, ← q4, List.take_append_drop]
    · dsimp only [decIt] at h
      cases h
  · obtain ⟨y1, y2, q1, q2, q3⟩ := app_some h
    subst q3
    split at q1
    · rename_i hl
      cases q1
      have ev : valB (numB x.length 2) = x.length := by rw [m_valB_numB, Nat.mod_eq_of_lt (by omega)]
      unfold decL countR
      rw [List.append_assoc, m_take_num, ev, if_pos ⟨rfl, by simp [numB_length], by omega, by omega⟩, m_drop_num]
      dsimp only
      rw [decIt_full g x [] y2 rest q2, List.nil_append]
    · cases q1
  · unfold decL countR
    rw [if_neg (by simp)]
    exact decIt_fails g bs 0 []
theorem good_P : Good encP decP id := by
  refine ⟨fun bs x rest h => ?_, fun x y rest h => ?_, fun bs => ?_⟩
  · unfold decP at h
    split at h
    · rename_i hf
      obtain ⟨c1, c2⟩ := Prod.mk.inj h
      have h0 : (numR bs false 2).2.2 = false := by
        cases hh : (numR bs false 2).2.2
        · rfl
        · rw [hh] at c2
          have := good_H.fails (numR bs false 2).2.1
          rw [c2] at this; cases this
      rw [h0] at c1 c2 hf
      obtain ⟨w1, w2⟩ := numR_was (bs := bs) (rest := (numR bs false 2).2.1) (x := (numR bs false 2).1) (n := 2) (eta3 h0)
      obtain ⟨y, q1, q2⟩ := good_H.sound (numR bs false 2).2.1 (decH (numR bs false 2).2.1 false).1 rest (eta2 c2)
      subst c1
      refine ⟨numB (numR bs false 2).1 2 ++ y, ?_, by rw [List.append_assoc, ← q2, ← w1]⟩
      unfold encP
      rw [if_pos hf]
      dsimp only
      rw [q1]; rfl
    · cases h
  · unfold encP at h
    split at h
    · rename_i hf
      obtain ⟨y1, y2, q1, q2, q3⟩ := app_some h
      subst q3
      cases q1
      obtain ⟨f0, f1, _⟩ := id hf
      have hn := numR_num (x := x.len.toNat) (n := 2) (y2 ++ rest) (by omega)
      unfold decP
      rw [List.append_assoc, hn]
      dsimp only
      rw [good_H.full _ _ _ q2]
      have : ((x.len.toNat : Nat) : Int) = x.len := by omega
      rw [this]
      dsimp only [id]
      rw [if_pos hf]
    · cases h
  · unfold decP
    rw [numR_true]
    dsimp only
    split
    · exact good_H.fails bs
    · rfl
theorem good_S : Good encS decS id := (good_P.and good_H Stp.mk Stp.p Stp.other (fun _ _ => rfl) fun _ _ => rfl).congr (fun _ => rfl) rfl fun _ => rfl
theorem good_V : Good encV decV id :=
  (good_N.and (good_N.and (good_H.and (good_H.and good_T Prod.mk Prod.fst Prod.snd (fun _ _ => rfl) fun _ _ => rfl) Prod.mk Prod.fst Prod.snd (fun _ _ => rfl) fun _ _ => rfl) Prod.mk Prod.fst Prod.snd (fun _ _ => rfl) fun _ _ => rfl)
    (fun a r => (⟨a, r.1, r.2.1, r.2.2.1, r.2.2.2⟩ : Vr)) Vr.num (fun v => (v.ep, v.salt, v.before, v.value)) (fun _ _ => rfl) fun _ _ => rfl).congr (fun _ => rfl) rfl fun _ => rfl
theorem good_W : Good encW decW id := (good_T.and good_V Nw.mk Nw.label Nw.v (fun _ _ => rfl) fun _ _ => rfl).congr (fun _ => rfl) rfl fun _ => rfl
theorem good_Tr : Good encTr decTr id := ((good_L good_H).and (good_L good_H) Trl.mk Trl.ahead Trl.behind (fun _ _ => rfl) fun _ _ => rfl).congr (fun _ => rfl) rfl fun x => by simp [id]
/-- The two halves of a row, or of a proof's end. -/
theorem good_KV : Good (fun z : Bytes × Bytes => app (encH z.1) (encH z.2)) (andD decH (fun _ => decH) Prod.mk) id := (good_H.and good_H Prod.mk Prod.fst Prod.snd (fun _ _ => rfl) fun _ _ => rfl).congr (fun _ => rfl) rfl fun _ => rfl
theorem good_PLR : Good (fun z : Pf × Bytes × Bytes => app (encP z.1) (app (encH z.2.1) (encH z.2.2))) (andD decP (fun _ => andD decH (fun _ => decH) Prod.mk) Prod.mk) id := (good_P.and good_KV Prod.mk Prod.fst Prod.snd (fun _ _ => rfl) fun _ _ => rfl).congr (fun _ => rfl) rfl fun _ => rfl
theorem andD_map {α β γ : Type} (d : Dec α) (g : α → Dec β) (k : α → β → γ) (bs : Bytes) (f : Bool) : andD d g k bs f = (k (andD d g Prod.mk bs f).1.1 (andD d g Prod.mk bs f).1.2, (andD d g Prod.mk bs f).2) := rfl
def bareRw (r : Rw) : Rw := if r.leaf then { zeroRw with leaf := true, key := r.key, value := r.value } else { zeroRw with p := r.p, left := r.left, right := r.right }
theorem flagR_was {bs rest : Bytes} {t : Bool} (h : flagR bs false = (t, rest, false)) : bs = numB (if t then 1 else 0) 1 ++ rest := by
  unfold flagR at h
  split at h
  · rename_i hc
    obtain ⟨_, c2, c3⟩ := hc
    cases h
    have h2 := numB_valB (bs.take 1)
    rw [show (bs.take 1).length = 1 by rw [List.length_take]; omega] at h2
    have : (if decide (valB (bs.take 1) = 1) = true then 1 else 0) = valB (bs.take 1) := by
      by_cases hh : valB (bs.take 1) = 1
      · simp [hh]
      · simp [hh]; omega
    rw [this, h2, List.take_append_drop]
  · cases h
theorem flagR_full (t : Bool) (rest : Bytes) : flagR (numB (if t then 1 else 0) 1 ++ rest) false = (t, rest, false) := by
  have ev : valB (numB (if t then 1 else 0) 1) = if t then 1 else 0 := by rw [m_valB_numB]; cases t <;> rfl
  unfold flagR
  rw [m_take_num, ev, if_pos ⟨rfl, by simp [numB_length], by cases t <;> simp⟩, m_drop_num]
  cases t <;> rfl
theorem flagR_true (bs : Bytes) : flagR bs true = (false, bs, true) := by unfold flagR; rw [if_neg (by simp)]
theorem good_R : Good encR decR bareRw := by
  refine ⟨fun bs x rest h => ?_, fun x y rest h => ?_, fun bs => ?_⟩
  · have h0 : (flagR bs false).2.2 = false := by
      cases hh : (flagR bs false).2.2
      · rfl
      · unfold decR at h
        rw [hh] at h
        split at h
        · rw [andD_map] at h
          have := good_KV.fails (flagR bs false).2.1
          obtain ⟨_, c2⟩ := Prod.mk.inj h
          rw [c2] at this; cases this
        · rw [andD_map] at h
          have := good_PLR.fails (flagR bs false).2.1
          obtain ⟨_, c2⟩ := Prod.mk.inj h
          rw [c2] at this; cases this
    have hw := flagR_was (bs := bs) (rest := (flagR bs false).2.1) (t := (flagR bs false).1) (eta3 h0)
    unfold decR at h
    rw [h0] at h
    split at h
    · rename_i ht
      rw [andD_map] at h
      obtain ⟨c1, c2⟩ := Prod.mk.inj h
      obtain ⟨y, q1, q2⟩ := good_KV.sound (flagR bs false).2.1 _ rest (eta2 c2)
      rw [ht] at hw
      subst c1
      refine ⟨numB 1 1 ++ y, ?_, by rw [List.append_assoc, ← q2]; exact hw⟩
      unfold encR
      rw [if_pos rfl]
      dsimp only
      rw [q1]; rfl
    · rename_i ht
      have ht : (flagR bs false).1 = false := by simpa using ht
      rw [andD_map] at h
      obtain ⟨c1, c2⟩ := Prod.mk.inj h
      obtain ⟨y, q1, q2⟩ := good_PLR.sound (flagR bs false).2.1 _ rest (eta2 c2)
      rw [ht] at hw
      subst c1
      refine ⟨numB 0 1 ++ y, ?_, by rw [List.append_assoc, ← q2]; exact hw⟩
      unfold encR
      rw [if_neg (by simp [zeroRw])]
      dsimp only
      rw [q1]; rfl
  · unfold encR at h
    split at h
    · rename_i ht
      obtain ⟨y1, y2, q1, q2, q3⟩ := app_some h
      subst q3
      cases q1
      have hfl := flagR_full true (y2 ++ rest)
      simp only [if_true] at hfl
      unfold decR
      rw [List.append_assoc, hfl, if_pos rfl, andD_map]
      dsimp only
      rw [good_KV.full (x.key, x.value) _ _ q2]
      unfold bareRw
      rw [if_pos ht]; rfl
    · rename_i ht
      obtain ⟨y1, y2, q1, q2, q3⟩ := app_some h
      subst q3
      cases q1
      have hfl := flagR_full false (y2 ++ rest)
      simp only [Bool.false_eq_true, if_false] at hfl
      unfold decR
      rw [List.append_assoc, hfl, if_neg (by simp), andD_map]
      dsimp only
      rw [good_PLR.full (x.p, x.left, x.right) _ _ q2]
      unfold bareRw
      rw [if_neg ht]; rfl
  · unfold decR
    rw [flagR_true, if_neg (by simp), andD_map]
    exact good_PLR.fails bs
def barePr (p : Prf) : Prf := if p.en = 1 then { zeroPrf with steps := p.steps, en := 1, key := p.key, value := p.value } else if p.en = 2 then { zeroPrf with steps := p.steps, en := 2, p := p.p, left := p.left, right := p.right } else { zeroPrf with steps := p.steps, en := p.en }
def encEnd (p : Prf) : OB := if p.en = 0 then some (numB 0 1) else if p.en = 1 then app (some (numB 1 1)) (app (encH p.key) (encH p.value)) else if p.en = 2 then app (some (numB 2 1)) (app (encP p.p) (app (encH p.left) (encH p.right))) else none
theorem decEnd_sound {steps : List Stp} {bs rest : Bytes} {p : Prf} (h : decEnd steps bs false = (p, rest, false)) : p.steps = steps ∧ ∃ y, encEnd p = some y ∧ bs = y ++ rest := by
  have h0 : (numR bs false 1).2.2 = false := by
    cases hh : (numR bs false 1).2.2
    · rfl
    · exfalso
      unfold decEnd at h
      dsimp only at h
      rw [hh] at h
      split at h
      · have := congrArg (fun r => r.2.2) h; dsimp only at this; rw [hh] at this; cases this
      · split at h
        · rw [andD_map] at h
          have := good_KV.fails (numR bs false 1).2.1
          obtain ⟨_, c2⟩ := Prod.mk.inj h
          rw [c2] at this; cases this
        · split at h
          · rw [andD_map] at h
            have := good_PLR.fails (numR bs false 1).2.1
            obtain ⟨_, c2⟩ := Prod.mk.inj h
            rw [c2] at this; cases this
          · cases h
  obtain ⟨w1, w2⟩ := numR_was (bs := bs) (rest := (numR bs false 1).2.1) (x := (numR bs false 1).1) (n := 1) (eta3 h0)
  unfold decEnd at h
  dsimp only at h
  rw [h0] at h
  split at h
  · rename_i he
    have he : (numR bs false 1).1 = 0 := by omega
    obtain ⟨c1, c2⟩ := Prod.mk.inj h
    subst c1
    refine ⟨rfl, numB 0 1, ?_, ?_⟩
    · unfold encEnd; rw [if_pos (by dsimp only; omega)]
    · rw [he] at w1
      rw [w1]
      congr 1
      exact congrArg Prod.fst c2
  · split at h
    · rename_i he
      have he : (numR bs false 1).1 = 1 := by omega
      rw [andD_map] at h
      obtain ⟨c1, c2⟩ := Prod.mk.inj h
      obtain ⟨y, q1, q2⟩ := good_KV.sound (numR bs false 1).2.1 _ rest (eta2 c2)
      subst c1
      rw [he] at w1
      refine ⟨rfl, numB 1 1 ++ y, ?_, by rw [List.append_assoc, ← q2]; exact w1⟩
      unfold encEnd
      rw [if_neg (by dsimp only; omega), if_pos (by dsimp only; omega)]
      dsimp only
      rw [q1]; rfl
    · split at h
      · rename_i he
        have he : (numR bs false 1).1 = 2 := by omega
        rw [andD_map] at h
        obtain ⟨c1, c2⟩ := Prod.mk.inj h
        obtain ⟨y, q1, q2⟩ := good_PLR.sound (numR bs false 1).2.1 _ rest (eta2 c2)
        subst c1
        rw [he] at w1
        refine ⟨rfl, numB 2 1 ++ y, ?_, by rw [List.append_assoc, ← q2]; exact w1⟩
        unfold encEnd
        rw [if_neg (by dsimp only; omega), if_neg (by dsimp only; omega), if_pos (by dsimp only; omega)]
        dsimp only
        rw [q1]; rfl
      · cases h
theorem decEnd_full {steps : List Stp} {p : Prf} {y rest : Bytes} (h : encEnd p = some y) : decEnd steps (y ++ rest) false = ({ barePr p with steps := steps }, rest, false) := by
  unfold encEnd at h
  split at h
  · rename_i he
    cases h
    unfold decEnd
    rw [numR_num (x := 0) (n := 1) rest (by omega)]
    dsimp only
    rw [if_pos (by rfl)]
    unfold barePr
    rw [if_neg (by omega), if_neg (by omega), he]
    rfl
  · split at h
    · rename_i he
      obtain ⟨y1, y2, q1, q2, q3⟩ := app_some h
      subst q3
      cases q1
      unfold decEnd
      rw [List.append_assoc, numR_num (x := 1) (n := 1) _ (by omega)]
      dsimp only
      rw [if_neg (by omega), if_pos (by omega), andD_map, good_KV.full (p.key, p.value) _ _ q2]
      unfold barePr
      rw [if_pos he]
      rfl
    · split at h
      · rename_i he
        obtain ⟨y1, y2, q1, q2, q3⟩ := app_some h
        subst q3
        cases q1
        unfold decEnd
        rw [List.append_assoc, numR_num (x := 2) (n := 1) _ (by omega)]
        dsimp only
        rw [if_neg (by omega), if_neg (by omega), if_pos (by omega), andD_map, good_PLR.full (p.p, p.left, p.right) _ _ q2]
        unfold barePr
        rw [if_neg (by omega), if_pos he]
        rfl
      · cases h
theorem decEnd_fails (steps : List Stp) (bs : Bytes) : (decEnd steps bs true).2.2 = true := by
  unfold decEnd
  rw [numR_true]
  dsimp only
  rw [if_pos (by rfl)]
theorem barePr_steps (p : Prf) : (barePr p).steps = p.steps := by unfold barePr; split; rfl; split <;> rfl
theorem good_Pr : Good encPr decPr barePr := by
  have gs := good_L good_S
  have hid : ∀ x : List Stp, x.map id = x := fun x => by simp
  refine ⟨fun bs x rest h => ?_, fun x y rest h => ?_, fun bs => ?_⟩
  · unfold decPr andD at h
    obtain ⟨c1, c2⟩ := Prod.mk.inj h
    have hf : (decL decS bs false).2.2 = false := by
      cases hh : (decL decS bs false).2.2
      · rfl
      · rw [hh] at c2
        have := decEnd_fails (decL decS bs false).1 (decL decS bs false).2.1
        rw [c2] at this; cases this
    rw [hf] at c1 c2
    obtain ⟨y1, q1, r1⟩ := gs.sound bs (decL decS bs false).1 (decL decS bs false).2.1 (eta3 hf)
    obtain ⟨e0, y2, q2, r2⟩ := decEnd_sound (steps := (decL decS bs false).1) (bs := (decL decS bs false).2.1) (rest := rest) (p := x) (Prod.ext c1 c2)
    refine ⟨y1 ++ y2, ?_, by rw [r1, r2, List.append_assoc]⟩
    show app (encL encS x.steps) (encEnd x) = _
    rw [e0, q1, q2]; rfl
  · obtain ⟨y1, y2, q1, q2, q3⟩ := app_some h
    subst q3
    unfold decPr andD
    rw [List.append_assoc, gs.full _ _ _ q1]
    dsimp only
    rw [hid, decEnd_full q2]
    have : ({ barePr x with steps := x.steps } : Prf) = barePr x := by rw [← barePr_steps x]
    rw [this]
  · unfold decPr andD
    dsimp only
    rw [gs.fails bs]
    exact decEnd_fails _ _
theorem headB_was {x : Bytes} (hx : x.length = 72) : numB (headB18 x).epoch.toNat 4 ++ (numB (headB18 x).tick.toNat 4 ++ ((headB18 x).tree ++ (headB18 x).log)) = x ∧ (headB18 x).tree.length = 32 ∧ (headB18 x).log.length = 32 := by
  have h1 := numB_valB (x.take 4)
  have h2 := numB_valB ((x.drop 4).take 4)
  rw [show (x.take 4).length = 4 by rw [List.length_take]; omega] at h1
  rw [show ((x.drop 4).take 4).length = 4 by rw [List.length_take, List.length_drop]; omega] at h2
  refine ⟨?_, by simp [headB18]; omega, by simp [headB18]; omega⟩
  show numB ((valB (x.take 4) : Int)).toNat 4 ++ (numB ((valB ((x.drop 4).take 4) : Int)).toNat 4 ++ ((x.drop 8).take 32 ++ x.drop 40)) = x
  rw [Int.toNat_natCast, Int.toNat_natCast, h1, h2]
  have e1 : x.drop 40 = (x.drop 8).drop 32 := by rw [List.drop_drop]
  have e2 : x.drop 8 = (x.drop 4).drop 4 := by rw [List.drop_drop]
  rw [e1, List.take_append_drop, e2, List.take_append_drop, List.take_append_drop]
theorem headB_of {s : Sg} (ho : headOk s) (h1 : s.tree.length = 32) (h2 : s.log.length = 32) : headB18 (numB s.epoch.toNat 4 ++ (numB s.tick.toNat 4 ++ (s.tree ++ s.log))) = { s with sig := [] } := by
  obtain ⟨o1, o2, o3, o4⟩ := ho
  unfold headB18
  have e1 : (numB s.epoch.toNat 4 ++ (numB s.tick.toNat 4 ++ (s.tree ++ s.log))).drop 8 = s.tree ++ s.log := by
    rw [show 8 = 4 + 4 from rfl, ← List.drop_drop, m_drop_num, m_drop_num]
  have e2 : (numB s.epoch.toNat 4 ++ (numB s.tick.toNat 4 ++ (s.tree ++ s.log))).drop 40 = s.log := by
    rw [show 40 = 8 + 32 from rfl, ← List.drop_drop, e1, List.drop_append, List.drop_of_length_le (by omega), h1, Nat.sub_self]; rfl
  rw [m_take_num, m_drop_num, m_take_num, e1, e2, List.take_append_of_le_length (by omega), List.take_of_length_le (by omega), m_valB_numB, m_valB_numB, Nat.mod_eq_of_lt (by omega), Nat.mod_eq_of_lt (by omega)]
  have a1 : ((s.epoch.toNat : Nat) : Int) = s.epoch := by omega
  have a2 : ((s.tick.toNat : Nat) : Int) = s.tick := by omega
  rw [a1, a2]
theorem good_G : Good encG decG id := by
  have gs : Good (fun b : Bytes => if b.length ≤ 8192 then some (numB b.length 2 ++ b) else none) (fun bs f => strR bs f 8192) id := good_str (top := 8192) (by omega) rfl
  refine ⟨fun bs x rest h => ?_, fun x y rest h => ?_, fun bs => ?_⟩
  · unfold decG at h
    split at h
    · rename_i hc
      have hf : (takeR bs false 72).2.2 = false := by
        cases hh : (takeR bs false 72).2.2
        · rfl
        · exfalso
          unfold takeR at hh hc
          split at hh
          · cases hh
          · rename_i hn
            rw [if_neg hn] at hc
            simp at hc
      split at h
      · rename_i hs
        have := congrArg (fun r => r.2.2) h
        dsimp only at this
        rw [hs] at this; cases this
      · rename_i hs
        rw [hf] at h hs
        obtain ⟨c1, c2⟩ := Prod.mk.inj h
        obtain ⟨w1, w2⟩ := takeR_was (n := 72) (bs := bs) (x := (takeR bs false 72).1) (rest := (takeR bs false 72).2.1) (eta3 hf)
        obtain ⟨y, q1, q2⟩ := gs.sound (takeR bs false 72).2.1 (strR (takeR bs false 72).2.1 false 8192).1 rest (eta2 c2)
        obtain ⟨z1, z2, z3⟩ := headB_was w2
        subst c1
        refine ⟨(takeR bs false 72).1 ++ y, ?_, by rw [List.append_assoc, ← q2, ← w1]⟩
        unfold encG
        have ho : headOk { headB18 (takeR bs false 72).1 with sig := (strR (takeR bs false 72).2.1 false 8192).1 } := hc.2
        dsimp only at q1 ⊢
        rw [if_pos ho, q1]
        unfold encH
        rw [if_pos z2, if_pos z3]
        show some (numB (headB18 (takeR bs false 72).1).epoch.toNat 4 ++ (numB (headB18 (takeR bs false 72).1).tick.toNat 4 ++ ((headB18 (takeR bs false 72).1).tree ++ (headB18 (takeR bs false 72).1).log)) ++ y) = _
        rw [z1]
    · cases h
  · unfold encG at h
    obtain ⟨y1, y2, q1, q2, q3⟩ := app_some h
    subst q3
    split at q1
    · rename_i ho
      obtain ⟨a1, a2, b1, b2, b3⟩ := app_some q1
      obtain ⟨a3, a4, b4, b5, b6⟩ := app_some b2
      obtain ⟨a5, a6, b7, b8, b9⟩ := app_some b5
      cases b1; cases b4
      unfold encH at b7 b8
      split at b7
      · rename_i l1
        split at b8
        · rename_i l2
          cases b7; cases b8
          subst b9; subst b6; subst b3
          have hl : (numB x.epoch.toNat 4 ++ (numB x.tick.toNat 4 ++ (x.tree ++ x.log))).length = 72 := by simp [numB_length]; omega
          have ht := takeR_full (x := numB x.epoch.toNat 4 ++ (numB x.tick.toNat 4 ++ (x.tree ++ x.log))) (rest := y2 ++ rest)
          rw [hl] at ht
          have ht : takeR (numB x.epoch.toNat 4 ++ (numB x.tick.toNat 4 ++ (x.tree ++ x.log)) ++ (y2 ++ rest)) false 72 = _ := ht
          have hs := gs.full x.sig _ rest q2
          unfold decG
          rw [List.append_assoc, ht]
          dsimp only
          rw [headB_of ho l1 l2, if_pos ⟨hl, ho⟩, hs, if_neg (by simp)]
          rfl
        · cases b8
      · cases b7
    · cases q1
  · unfold decG
    rw [takeR_true]
    rw [if_neg (by simp)]
end Go.Proofs.YthlmiijlhiiccaaGreat
