/- Layer 8: what a slot holds, wherever the power goes (no program in sight). -/
import Derived.Test.Ytkeggnfffnodmaa8g
set_option linter.unusedVariables false
set_option maxRecDepth 100000
namespace Go.Proofs.Ytkeggnfffnodmaa
open Go Go.Vc Go.Proofs
/-- What lasts of a slot at page 2: serial c, value v; the other page is torn, or older. -/
structure Base (L : List (List UInt8)) (c : Nat) (v : List UInt8) : Prop where
  len : v.length ≤ 110
  nil : c = 0 → v = [] ∧ L.getD 2 [] = List.replicate 128 0 ∧ Torn (L.getD 3 []) 0 1
  cur : 0 < c → L.getD (2 + c % 2) [] = pageB c v ∧ Torn (L.getD (2 + (c + 1) % 2) []) (c - 1) (c + 1)
theorem Base.other {L : List (List UInt8)} {c : Nat} {v : List UInt8} (b : Base L c v) : Torn (L.getD (2 + (c + 1) % 2) []) (c - 1) (c + 1) := by
  by_cases hc : c = 0
  · subst hc; exact (b.nil rfl).2.2
  · exact (b.cur (by omega)).2
theorem Base.slot {D : Dev} {c : Nat} {v : List UInt8} (b : Base D.seen c v) (hc : c + 2 < 18446744073709551616) : Slot D 2 c v := by
  refine ⟨fun h => ⟨(b.nil h).1, fun s x hd => ?_⟩, fun h => ?_, fun s x hd => ?_⟩
  · rw [pg, (b.nil h).2.1, decB_zero] at hd
    cases hd
  · rw [pg, (b.cur h).1]
    exact decB_page h (by omega) b.len
  · by_cases h0 : c = 0
    · subst h0
      have hs := torn_dec b.other (by omega) (by omega) hd
      subst hs
      exact .inr (by omega)
    · have hs := torn_dec b.other (by omega) (by omega) hd
      exact .inl (by omega)
theorem Base.congr {L L' : List (List UInt8)} {c : Nat} {v : List UInt8} (b : Base L c v) (h2 : L'.getD 2 [] = L.getD 2 []) (h3 : L'.getD 3 [] = L.getD 3 []) : Base L' c v := by
  have h : ∀ k, k < 2 → L'.getD (2 + k) [] = L.getD (2 + k) [] := fun k hk => by
    have : k = 0 ∨ k = 1 := by omega
    rcases this with rfl | rfl
    · exact h2
    · exact h3
  refine ⟨b.len, fun hc => ?_, fun hc => ?_⟩
  · rw [h2, h3]; exact b.nil hc
  · rw [h _ (by omega), h _ (by omega)]; exact b.cur hc
/-- A page of the next serial is laid whole. -/
theorem Base.next {L : List (List UInt8)} {c : Nat} {v x : List UInt8} (b : Base L c v) (hL : 3 < L.length) (hx : x.length ≤ 110) (hc : c + 2 < 18446744073709551616) : Base (L.set (2 + (c + 1) % 2) (pageB (c + 1) x)) (c + 1) x := by
  refine ⟨hx, fun h => by omega, fun _ => ⟨by rw [getD_set (by omega), if_pos rfl], ?_⟩⟩
  rw [getD_set (by omega), if_neg (by omega)]
  have e : 2 + (c + 1 + 1) % 2 = 2 + c % 2 := by omega
  rw [e]
  by_cases h0 : c = 0
  · subst h0
    rw [show L.getD (2 + 0 % 2) [] = List.replicate 128 0 from (b.nil rfl).2.1]
    exact torn_zero
  · rw [(b.cur (by omega)).1]
    exact torn_page (by omega) b.len
/-- A page of the next serial is laid in part. -/
theorem Base.torn {L : List (List UInt8)} {c : Nat} {v x : List UInt8} {t : Int} (b : Base L c v) (hL : 3 < L.length) (hx : x.length ≤ 110) (ht : t < 128) : Base (L.set (2 + (c + 1) % 2) (mixed (L.getD (2 + (c + 1) % 2) []) (pageB (c + 1) x) t)) c v := by
  have ho := torn_mixed b.other hx ht
  refine ⟨b.len, fun h => ?_, fun h => ⟨?_, ?_⟩⟩
  · subst h
    refine ⟨(b.nil rfl).1, ?_, ?_⟩
    · rw [getD_set (by omega), if_neg (by omega)]
      exact (b.nil rfl).2.1
    · rw [getD_set (by omega), if_pos (by omega)]
      exact ho
  · rw [getD_set (by omega), if_neg (by omega)]
    exact (b.cur h).1
  · rw [getD_set (by omega), if_pos rfl]
    exact ho
end Go.Proofs.Ytkeggnfffnodmaa
