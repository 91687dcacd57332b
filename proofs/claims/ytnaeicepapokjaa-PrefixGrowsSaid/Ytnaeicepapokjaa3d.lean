/- Keys and prefixes: the reference's cut; formed, holds, within, meet, child, less. -/
import Derived.Test.Ytnaeicepapokjaa3c
set_option linter.unusedVariables false
namespace Go.Proofs.Ytnaeicepapokjaa
open Go Go.Vc Go.Proofs Go.Vc.Keys

theorem St.storeTail {h0 h : Heap} {F : List HP} {b n : Nat} {v : Value} {vs : List Value} {cs : Array Value} {K : Heap → Prop} (hs : St h0 h (pts b 0 false (v :: vs) :: F)) (hn : vs.length = n) (hc : cs.size = n) (ho : one cs)
    (hk : ∀ h', St h0 h' (pts b 0 false (v :: cs.toList) :: F) → K h') : Vc.storeP (some n) h (Addr.mk b 1 none) (.agg cs) K := by
  have hcs : (Value.agg cs).cells = cs := rfl
  have := hs.storeRow (o := 0) (i := 1) (n := n) (v := .agg cs) (K := K) (by rw [hcs]; exact hc) (by simp; omega) (by rw [hcs]; exact ho) fun h' s => hk h' (by
    rw [hcs] at s
    have e : lay (v :: vs) 1 cs.toList = v :: cs.toList := by
      simp only [lay, List.take_succ_cons, List.take_zero, List.cons_append, List.nil_append]
      rw [List.drop_of_length_le (by simp [hc, hn]; omega), List.append_nil]
    rw [e] at s; exact s)
  simpa using this
theorem rowTail {h0 h : Heap} {F : List HP} {b : Nat} {l : Int} {ks : List UInt8} (hs : St h0 h (pts b 0 false (.int .i64 l :: bcs ks) :: F)) (hk : ks.length = 32) : row h (Addr.mk b 1 none) 32 = some (hv ks) := by
  have := hs.rowAt (i := 1) (n := 32) (by rw [pl_length hk]; decide)
  rw [this, List.drop_succ_cons, List.drop_zero, List.take_of_length_le (by rw [bcs_length, hk]; exact Nat.le_refl _)]
theorem rowAll {h0 h : Heap} {F : List HP} {b : Nat} {l : Int} {ks : List UInt8} (hs : St h0 h (pts b 0 false (.int .i64 l :: bcs ks) :: F)) (hk : ks.length = 32) : row h (Addr.mk b 0 none) 33 = some (pv l ks) := hs.row0 (pl_length hk)
theorem rowKey {h0 h : Heap} {F : List HP} {b : Nat} {ks : List UInt8} (hs : St h0 h (pts b 0 false (bcs ks) :: F)) (hk : ks.length = 32) : row h (Addr.mk b 0 none) 32 = some (hv ks) := hs.row0 (by rw [bcs_length, hk])

theorem rcut_ok {h : Heap} {ks : List UInt8} (hk : ks.length = 32) (n : Int) :
    CallsH Try.prog n_ref03_Cut #[.agg (hv ks), .int .i64 n] h fun v h' => (∃ ls, v = .agg (pv (clampN n) ls) ∧ IsCut ks (clampN n) ls) ∧ Ext h h' := by
  refine C_ref03_Cut (hv ks) n ?_
  unfold F_ref03_Cut
  refine (St.start h).newBlk fun b0 h1 hb0 s e => s.newBlk fun b2 h3 hb2 s e2 => s.newBlk fun b4 h5 hb4 s e4 => ?_
  simp only [zero_cells] at s
  refine ⟨fun n' h' => ∃ c : Nat, n' = c ∧ c ≤ clampN n ∧ ∃ ms : List UInt8, IsCut ks c ms ∧ St h h' [pts b4 0 false (.int .i64 c :: bcs ms), pts b2 0 false (.int .i64 0 :: bcs zeros), pts b0 0 false (bcs ks)],
    fun n _ => 256 - n.toNat, ⟨0, rfl, by omega, zeros, ⟨zeros_length, fun i hi => by rw [bit_zeros]; simp⟩, s⟩, ?_⟩
  intro n' h9 hI
  obtain ⟨c, hn, hc, ms, hms, s⟩ := hI
  subst hn
  have hcl : clampN n ≤ 256 := clamp_le n
  have fin : ¬ ((c : Int) < n ∧ (c : Int) < 256) → ∃ cs : Array Value, row h9 (Addr.mk b4 0 none) 33 = some cs ∧ storeP (some 33) h9 (Addr.mk b2 0 none) (Value.agg cs) fun h22 => ∃ cs', row h22 (Addr.mk b2 0 none) 33 = some cs' ∧ ((∃ ls, Value.agg cs' = .agg (pv (clampN n) ls) ∧ IsCut ks (clampN n) ls) ∧ Ext h h22) := by
    intro hno
    have : c = clampN n := by unfold clampN at hc ⊢; omega
    subst this
    exact ⟨_, rowAll s hms.1, s.up1.ret (pl_length zeros_length) (pv_size hms.1) (one_pv _ _) fun h' e => ⟨⟨ms, rfl, hms⟩, e⟩⟩
  rw [br_decide]
  refine ⟨fun hlt => ?_, fun hge => fin (by omega)⟩
  rw [br_decide]
  refine ⟨fun hlt2 => ?_, fun hge => fin (by omega)⟩
  have ew : IntKind.wrap .i64 ((c : Int) + 1) = ((c + 1 : Nat) : Int) := by rw [wrap_i64 (by omega) (by omega)]; omega
  have hc1 : c + 1 ≤ clampN n := by unfold clampN; omega
  have hμ : 256 - ((c + 1 : Nat) : Int).toNat < 256 - (c : Int).toNat := by omega
  rw [ew]
  simp only [add_mk, Nat.zero_add, Nat.add_zero]
  refine ⟨(c : Int), s.cell0 rfl, s.store0 (by simp) rfl fun h11 s => ?_⟩
  rw [ew] at s
  refine ⟨hv ks, rowKey s.up2 hk, (rbit_ok hk c).mono fun v h14 ⟨hv1, e14⟩ => ⟨e14, _, hv1, ?_⟩⟩
  have s := s.keep e14
  rw [br_beq, bitI_nat _ (by omega)]
  refine ⟨fun h1 => ?_, fun h0 => ?_⟩
  · have hb : bit ks c = true := by cases hb : bit ks c <;> simp [hb] at h1 ⊢
    refine ⟨hv ms, rowTail s hms.1, (set_ok hms.1 (i := c) (by omega)).mono fun v h18 ⟨⟨ls, hv2, hls⟩, e18⟩ => ⟨e18, hv ls, hv_size hls.1, hv2, ?_⟩⟩
    refine St.storeTail (s.keep e18) (by rw [bcs_length, hms.1]) (hv_size hls.1) (one_hv ls) fun h20 s => ⟨⟨c + 1, rfl, hc1, ls, ⟨hls.1, fun i hi => ?_⟩, s⟩, hμ⟩
    rw [hls.2 i hi, hms.2 i hi]
    by_cases hic : i = c
    · subst hic; simp [hb]
    · rw [show decide (i = c) = false by simpa using hic, Bool.or_false]
      congr 1
      simp only [decide_eq_decide]; omega
  · have hb : bit ks c = false := by cases hb : bit ks c <;> simp [hb] at h0 ⊢
    refine ⟨⟨c + 1, rfl, hc1, ms, ⟨hms.1, fun i hi => ?_⟩, s⟩, hμ⟩
    rw [hms.2 i hi]
    by_cases hic : i = c
    · subst hic; simp [hb]
    · congr 1
      simp only [decide_eq_decide]; omega

theorem formed_ok {h : Heap} {l : Int} {ks : List UInt8} (hl : I64 l) (hk : ks.length = 32) : CallsH Try.prog n_prefix_Formed #[.agg (pv l ks)] h fun v h' => v = .bool (decide (Formed l ks)) ∧ Ext h h' := by
  refine C_prefix_Formed (pv l ks) ?_
  unfold F_prefix_Formed
  refine (St.start h).newBlk fun b0 h1 hb0 s e => ?_
  simp only [add_mk, Nat.zero_add, Nat.add_zero]
  refine ⟨l, s.cell0 rfl, ?_⟩
  rw [br_decide]
  refine ⟨fun h0 => ⟨l, s.cell0 rfl, ?_⟩, fun h0 => ⟨by rw [decide_eq_false]; intro hf; exact h0 hf.1, e⟩⟩
  rw [br_decide]
  refine ⟨fun h256 => ?_, fun h256 => ⟨by rw [decide_eq_false]; intro hf; exact h256 hf.2.1, e⟩⟩
  refine ⟨hv ks, rowTail s hk, l, s.cell0 rfl, pv l ks, rowAll s hk, (cut_ok hk l).mono fun v h8 ⟨⟨ls, hv1, hls⟩, e8⟩ => ⟨e8, _, pv_size hls.1, hv1, ?_⟩⟩
  rw [clamp_of h0 h256] at hls ⊢
  refine eq_prefix (by unfold I64; omega) hl hls.1 hk ⟨?_, e.trans e8⟩
  congr 2
  rw [eq_iff_iff, ← formed_cut hk h0 h256 hls]
  constructor
  · exact fun hh => hh.2
  · exact fun hh => ⟨by omega, hh⟩
theorem rformed_ok {h : Heap} {l : Int} {ks : List UInt8} (hk : ks.length = 32) : CallsH Try.prog n_ref03_Formed #[.agg (pv l ks)] h fun v h' => v = .bool (decide (Formed l ks)) ∧ Ext h h' := by
  refine C_ref03_Formed (pv l ks) ?_
  unfold F_ref03_Formed
  refine (St.start h).newBlk fun b0 h1 hb0 s e => ?_
  simp only [add_mk, Nat.zero_add, Nat.add_zero]
  refine ⟨l, s.cell0 rfl, ?_⟩
  rw [br_decide]
  refine ⟨fun h0 => ⟨by rw [decide_eq_false]; intro hf; exact absurd hf.1 (by omega), e⟩, fun h0 => ⟨l, s.cell0 rfl, ?_⟩⟩
  rw [br_decide]
  refine ⟨fun h256 => ⟨by rw [decide_eq_false]; intro hf; exact absurd hf.2.1 (by omega), e⟩, fun h256 => ⟨l, s.cell0 rfl, ?_⟩⟩
  refine ⟨fun n h' => ∃ c : Nat, n = c ∧ l ≤ c ∧ c ≤ 256 ∧ (∀ i : Nat, i < c → l ≤ (i : Int) → bit ks i = false) ∧ St h h' [pts b0 0 false (.int .i64 l :: bcs ks)], fun n _ => 256 - n.toNat, ⟨l.toNat, by omega, by omega, by omega, fun i hi hl => by omega, s⟩, ?_⟩
  intro n h8 hI
  obtain ⟨c, hn, hlc, hc, hall, s⟩ := hI
  subst hn
  rw [br_decide]
  refine ⟨fun hlt => ⟨hv ks, rowTail s hk, (rbit_ok hk c).mono fun v h11 ⟨hv1, e11⟩ => ⟨e11, _, hv1, ?_⟩⟩, fun hge => ⟨?_, s.ext⟩⟩
  · have s := s.keep e11
    rw [br_beq, bitI_nat _ (by omega)]
    refine ⟨fun h1 => ⟨?_, s.ext⟩, fun h0 => ?_⟩
    · have hb : bit ks c = true := by cases hb : bit ks c <;> simp [hb] at h1 ⊢
      rw [decide_eq_false]
      intro hf
      rw [hf.2.2 c (by omega) hlc] at hb; cases hb
    · have hb : bit ks c = false := by cases hb : bit ks c <;> simp [hb] at h0 ⊢
      have ew : IntKind.wrap .i64 ((c : Int) + 1) = ((c + 1 : Nat) : Int) := by rw [wrap_i64 (by omega) (by omega)]; omega
      rw [ew]
      refine ⟨⟨c + 1, rfl, by omega, by omega, fun i hi hli => ?_, s⟩, by show 256 - ((c + 1 : Nat) : Int).toNat < 256 - (c : Int).toNat; omega⟩
      by_cases hic : i = c
      · subst hic; exact hb
      · exact hall i (by omega) hli
  · have : c = 256 := by omega
    subst this
    rw [decide_eq_true (show Formed l ks from ⟨by omega, by omega, hall⟩)]

theorem holds_ok {h : Heap} {l : Int} {ks k : List UInt8} (hl : I64 l) (hk : ks.length = 32) (hk' : k.length = 32) : CallsH Try.prog n_prefix_Holds #[.agg (pv l ks), .agg (hv k)] h fun v h' => v = .bool (decide (Holds l ks k)) ∧ Ext h h' := by
  refine C_prefix_Holds (pv l ks) (hv k) ?_
  unfold F_prefix_Holds
  refine (St.start h).newBlk fun b0 h1 hb0 s e => s.newBlk fun b2 h3 hb2 s e2 => ?_
  simp only [add_mk, Nat.zero_add, Nat.add_zero]
  refine ⟨pv l ks, rowAll s.up1 hk, (formed_ok hl hk).mono fun v h6 ⟨hv1, e6⟩ => ⟨e6, _, hv1, ?_⟩⟩
  have s := s.keep e6
  rw [br_decide]
  refine ⟨fun hf => ⟨hv k, rowKey s hk', l, s.up1.cell0 rfl, pv l ks, rowAll s.up1 hk, (cut_ok hk' l).mono fun v h12 ⟨⟨ls, hv2, hls⟩, e12⟩ => ⟨e12, _, pv_size hls.1, hv2, ?_⟩⟩, fun hf => ⟨by rw [decide_eq_false]; intro hh; exact hf hh.1, s.ext⟩⟩
  rw [clamp_of hf.1 hf.2.1] at hls ⊢
  have h01 := hf.1
  have h02 := hf.2.1
  refine eq_prefix (by unfold I64; omega) hl hls.1 hk ⟨?_, s.ext.trans e12⟩
  congr 2
  rw [eq_iff_iff, ← holds_cut hk hf hls]
  constructor
  · exact fun hh => hh.2
  · exact fun hh => ⟨by omega, hh⟩
theorem rholds_ok {h : Heap} {l : Int} {ks k : List UInt8} (hk : ks.length = 32) (hk' : k.length = 32) : CallsH Try.prog n_ref03_Holds #[.agg (pv l ks), .agg (hv k)] h fun v h' => v = .bool (decide (Holds l ks k)) ∧ Ext h h' := by
  refine C_ref03_Holds (pv l ks) (hv k) ?_
  unfold F_ref03_Holds
  refine (St.start h).newBlk fun b0 h1 hb0 s e => s.newBlk fun b2 h3 hb2 s e2 => ?_
  simp only [add_mk, Nat.zero_add, Nat.add_zero]
  refine ⟨pv l ks, rowAll s.up1 hk, (rformed_ok hk).mono fun v h6 ⟨hv1, e6⟩ => ⟨e6, _, hv1, ?_⟩⟩
  have s := s.keep e6
  rw [br_decide]
  refine ⟨fun hf => ⟨hv ks, rowTail s.up1 hk, hv k, rowKey s hk', l, s.up1.cell0 rfl, (sharedr_ok hk hk').mono fun v h12 ⟨⟨n, hv2, hsh⟩, e12⟩ => ⟨e12, _, hv2, ?_, s.ext.trans e12⟩⟩, fun hf => ⟨by rw [decide_eq_false]; intro hh; exact hf hh.1, s.ext⟩⟩
  congr 2
  rw [eq_iff_iff, ge_iff_le, hsh.ge hf.2.1]
  exact ⟨fun hh => ⟨hf, hh⟩, fun hh => hh.2⟩

theorem within_ok {h : Heap} {l m : Int} {p q : List UInt8} (hl : I64 l) (hm : I64 m) (hp : p.length = 32) (hq : q.length = 32) : CallsH Try.prog n_prefix_Within #[.agg (pv l p), .agg (pv m q)] h fun v h' => v = .bool (decide (Within l p m q)) ∧ Ext h h' := by
  refine C_prefix_Within (pv l p) (pv m q) ?_
  unfold F_prefix_Within
  refine (St.start h).newBlk fun b0 h1 hb0 s e => s.newBlk fun b2 h3 hb2 s e2 => ?_
  simp only [add_mk, Nat.zero_add, Nat.add_zero]
  refine ⟨pv m q, rowAll s hq, (formed_ok hm hq).mono fun v h6 ⟨hv1, e6⟩ => ⟨e6, _, hv1, ?_⟩⟩
  have s := s.keep e6
  rw [br_decide]
  refine ⟨fun hf => ⟨l, s.up1.cell0 rfl, m, s.cell0 rfl, ?_⟩, fun hf => ⟨by rw [decide_eq_false]; intro hh; exact hf hh.2.1, s.ext⟩⟩
  rw [br_decide]
  refine ⟨fun hle => ⟨pv l p, rowAll s.up1 hp, hv q, rowTail s hq, (holds_ok hl hp hq).mono fun v h13 ⟨hv2, e13⟩ => ⟨e13, _, hv2, ?_, s.ext.trans e13⟩⟩, fun hle => ⟨by rw [decide_eq_false]; intro hh; exact hle hh.2.2.1, s.ext⟩⟩
  congr 2
  rw [eq_iff_iff]
  exact ⟨fun hh => ⟨hh.1, hf, hle, hh.2⟩, fun hh => ⟨hh.1, hh.2.2.2⟩⟩
theorem rwithin_ok {h : Heap} {l m : Int} {p q : List UInt8} (hp : p.length = 32) (hq : q.length = 32) : CallsH Try.prog n_ref03_Within #[.agg (pv l p), .agg (pv m q)] h fun v h' => v = .bool (decide (Within l p m q)) ∧ Ext h h' := by
  refine C_ref03_Within (pv l p) (pv m q) ?_
  unfold F_ref03_Within
  refine (St.start h).newBlk fun b0 h1 hb0 s e => s.newBlk fun b2 h3 hb2 s e2 => ?_
  simp only [add_mk, Nat.zero_add, Nat.add_zero]
  refine ⟨pv l p, rowAll s.up1 hp, (rformed_ok hp).mono fun v h6 ⟨hv1, e6⟩ => ⟨e6, _, hv1, ?_⟩⟩
  have s := s.keep e6
  rw [br_decide]
  refine ⟨fun hf => ⟨pv m q, rowAll s hq, (rformed_ok hq).mono fun v h10 ⟨hv2, e10⟩ => ⟨e10, _, hv2, ?_⟩⟩, fun hf => ⟨by rw [decide_eq_false]; intro hh; exact hf hh.1, s.ext⟩⟩
  have s := s.keep e10
  rw [br_decide]
  refine ⟨fun hf' => ⟨l, s.up1.cell0 rfl, m, s.cell0 rfl, ?_⟩, fun hf' => ⟨by rw [decide_eq_false]; intro hh; exact hf' hh.2.1, s.ext⟩⟩
  rw [br_decide]
  refine ⟨fun hle => ⟨hv p, rowTail s.up1 hp, hv q, rowTail s hq, l, s.up1.cell0 rfl, (sharedr_ok hp hq).mono fun v h18 ⟨⟨n, hv3, hsh⟩, e18⟩ => ⟨e18, _, hv3, ?_, s.ext.trans e18⟩⟩, fun hle => ⟨by rw [decide_eq_false]; intro hh; exact hle hh.2.2.1, s.ext⟩⟩
  congr 2
  rw [eq_iff_iff, ge_iff_le, hsh.ge hf.2.1]
  exact ⟨fun hh => ⟨hf, hf', hle, hh⟩, fun hh => hh.2.2.2⟩

theorem meet_zero {l m : Int} {p q : List UInt8} (hn : ¬ (Formed l p ∧ Formed m q)) : IsMeet l p m q 0 zeros := by unfold IsMeet; rw [if_neg hn]; exact ⟨rfl, rfl⟩
theorem zero_pv : (List.toArray (Value.int IntKind.i64 (0 : Int) :: List.replicate (32 : Nat) (Value.int IntKind.u8 (0 : Int)))) = pv 0 zeros := by rw [zero_cells]
theorem meet_ok {h : Heap} {l m : Int} {p q : List UInt8} (hl : I64 l) (hm : I64 m) (hp : p.length = 32) (hq : q.length = 32) :
    CallsH Try.prog n_prefix_Meet #[.agg (pv l p), .agg (pv m q)] h fun v h' => (∃ n ls, v = .agg (pv n ls) ∧ IsMeet l p m q n ls ∧ ls.length = 32 ∧ I64 n) ∧ Ext h h' := by
  refine C_prefix_Meet (pv l p) (pv m q) ?_
  unfold F_prefix_Meet
  refine (St.start h).newBlk fun b0 h1 hb0 s e => s.newBlk fun b2 h3 hb2 s e2 => s.newBlk fun b4 h5 hb4 s e4 => ?_
  simp only [zero_pv] at s ⊢
  simp only [add_mk, Nat.zero_add, Nat.add_zero]
  have h0 : I64 0 := by unfold I64; omega
  refine ⟨pv l p, rowAll s.up2 hp, (formed_ok hl hp).mono fun v h8 ⟨hv1, e8⟩ => ⟨e8, _, hv1, ?_⟩⟩
  have s := s.keep e8
  rw [br_not, br_decide]
  refine ⟨fun hf => ⟨pv m q, rowAll s.up1 hq, (formed_ok hm hq).mono fun v h14 ⟨hv2, e14⟩ => ⟨e14, _, hv2, ?_⟩⟩, fun hf => s.ret (pl_length zeros_length) (pv_size zeros_length) (one_pv _ _) fun h' e => ⟨⟨_, _, rfl, meet_zero (fun hh => hf hh.1), zeros_length, h0⟩, e⟩⟩
  have s := s.keep e14
  rw [br_not, br_decide]
  refine ⟨fun hf' => ?_, fun hf' => s.ret (pl_length zeros_length) (pv_size zeros_length) (one_pv _ _) fun h' e => ⟨⟨_, _, rfl, meet_zero (fun hh => hf' hh.2), zeros_length, h0⟩, e⟩⟩
  refine ⟨hv p, rowTail s.up2 hp, hv p, rowTail s.up2 hp, hv q, rowTail s.up1 hq, l, s.up2.cell0 rfl, m, s.up1.cell0 rfl, (shared_ok hp hq).mono fun v h24 ⟨⟨n, hv3, hsh⟩, e24⟩ => ⟨e24, _, hv3, ?_⟩⟩
  have s := s.keep e24
  refine (cut_ok hp _).mono fun v h27 ⟨⟨ls, hv4, hls⟩, e27⟩ => ⟨e27, _, pv_size hls.1, hv4, ?_⟩
  have s := s.keep e27
  have hmin : minI (minI (n : Int) l) m = min (min (n : Int) l) m := by unfold minI; split <;> split <;> omega
  have h01 := hf.1
  have h02 := hf.2.1
  have h03 := hf'.1
  have hn := hsh.1
  rw [hmin, clamp_of (by omega) (by omega)] at hls ⊢
  refine s.ret (pl_length zeros_length) (pv_size hls.1) (one_pv _ _) fun h' e => ⟨⟨_, _, rfl, ?_, hls.1, by unfold I64; omega⟩, e⟩
  unfold IsMeet
  rw [if_pos ⟨hf, hf'⟩]
  exact ⟨n, hsh, by omega, by rw [Int.toNat_natCast]; exact hls⟩

theorem rmeet_ok {h : Heap} {l m : Int} {p q : List UInt8} (hp : p.length = 32) (hq : q.length = 32) :
    CallsH Try.prog n_ref03_Meet #[.agg (pv l p), .agg (pv m q)] h fun v h' => (∃ n ls, v = .agg (pv n ls) ∧ IsMeet l p m q n ls ∧ ls.length = 32 ∧ I64 n) ∧ Ext h h' := by
  refine C_ref03_Meet (pv l p) (pv m q) ?_
  unfold F_ref03_Meet
  refine (St.start h).newBlk fun b0 h1 hb0 s e => s.newBlk fun b2 h3 hb2 s e2 => s.newBlk fun b4 h5 hb4 s e4 => ?_
  simp only [zero_pv] at s ⊢
  simp only [add_mk, Nat.zero_add, Nat.add_zero]
  have h0 : I64 0 := by unfold I64; omega
  refine ⟨pv l p, rowAll s.up2 hp, (rformed_ok hp).mono fun v h8 ⟨hv1, e8⟩ => ⟨e8, _, hv1, ?_⟩⟩
  have s := s.keep e8
  rw [br_not, br_decide]
  refine ⟨fun hf => ⟨pv m q, rowAll s.up1 hq, (rformed_ok hq).mono fun v h14 ⟨hv2, e14⟩ => ⟨e14, _, hv2, ?_⟩⟩, fun hf => s.ret (pl_length zeros_length) (pv_size zeros_length) (one_pv _ _) fun h' e => ⟨⟨_, _, rfl, meet_zero (fun hh => hf hh.1), zeros_length, h0⟩, e⟩⟩
  have s := s.keep e14
  rw [br_not, br_decide]
  refine ⟨fun hf' => ?_, fun hf' => s.ret (pl_length zeros_length) (pv_size zeros_length) (one_pv _ _) fun h' e => ⟨⟨_, _, rfl, meet_zero (fun hh => hf' hh.2), zeros_length, h0⟩, e⟩⟩
  have h01 := hf.1
  have h02 := hf.2.1
  have h03 := hf'.1
  have h04 := hf'.2.1
  refine ⟨fun n h' => ∃ c : Nat, n = c ∧ (c : Int) ≤ l ∧ (c : Int) ≤ m ∧ (∀ i, i < c → bit p i = bit q i) ∧ St h h' [pts b4 0 false (pv 0 zeros).toList, pts b2 0 false (pv m q).toList, pts b0 0 false (pv l p).toList], fun n _ => 256 - n.toNat, ⟨0, rfl, by omega, by omega, fun i hi => by omega, s⟩, ?_⟩
  intro n h21 hI
  obtain ⟨c, hn, hcl, hcm, hall, s⟩ := hI
  subst hn
  have fin : ∀ h9, St h h9 [pts b4 0 false (pv 0 zeros).toList, pts b2 0 false (pv m q).toList, pts b0 0 false (pv l p).toList] → ((c : Int) < l → (c : Int) < m → bit p c ≠ bit q c) → ∃ cs : Array Value, row h9 (Addr.mk b0 1 none) 32 = some cs ∧ CallsH Try.prog n_ref03_Cut #[Value.agg cs, Value.int .i64 c] h9 fun v h40 =>
      Ext h9 h40 ∧ ∃ cs41 : Array Value, Array.size cs41 = 33 ∧ v = Value.agg cs41 ∧ storeP (some 33) h40 (Addr.mk b4 0 none) (Value.agg cs41) fun h42 => ∃ cs', row h42 (Addr.mk b4 0 none) 33 = some cs' ∧ ((∃ n ls, Value.agg cs' = .agg (pv n ls) ∧ IsMeet l p m q n ls ∧ ls.length = 32 ∧ I64 n) ∧ Ext h h42) := by
    intro h9 s hno
    refine ⟨hv p, rowTail s.up2 hp, (rcut_ok hp c).mono fun v h40 ⟨⟨ls, hv3, hls⟩, e40⟩ => ⟨e40, _, pv_size hls.1, hv3, ?_⟩⟩
    have s := s.keep e40
    rw [clamp_of (by omega) (by omega)] at hls ⊢
    refine s.ret (pl_length zeros_length) (pv_size hls.1) (one_pv _ _) fun h' e => ⟨⟨_, _, rfl, ?_, hls.1, by unfold I64; omega⟩, e⟩
    unfold IsMeet
    rw [if_pos ⟨hf, hf'⟩]
    obtain ⟨sh, hsh⟩ := Sh.ex p q
    refine ⟨sh, hsh, ?_, by simpa using hls⟩
    have h5 := hsh.1
    have hge : c ≤ sh := by
      by_cases hcs : c ≤ sh
      · exact hcs
      · exact ((hsh.2.2 (by omega)) (hall sh (by omega))).elim
    have hle : (c : Int) < l → (c : Int) < m → sh ≤ c := fun h1 h2 => by
      by_cases hcs : sh ≤ c
      · exact hcs
      · exact (hno h1 h2 (hsh.2.1 c (by omega))).elim
    simp only [Int.toNat_natCast]
    omega
  refine ⟨l, s.up2.cell0 rfl, ?_⟩
  rw [br_decide]
  refine ⟨fun hlt => ⟨m, s.up1.cell0 rfl, ?_⟩, fun hge => fin h21 s (fun h1 h2 => (hge h1).elim)⟩
  rw [br_decide]
  refine ⟨fun hlt2 => ?_, fun hge => fin h21 s (fun h1 h2 => (hge h2).elim)⟩
  refine ⟨hv p, rowTail s.up2 hp, hv q, rowTail s.up1 hq, (rbit_ok hp c).mono fun v h27 ⟨hv3, e27⟩ => ⟨e27, _, hv3, (rbit_ok hq c).mono fun v h30 ⟨hv4, e30⟩ => ⟨e30, _, hv4, ?_⟩⟩⟩
  have s := (s.keep e27).keep e30
  rw [br_beq, bitI_nat _ (by omega), bitI_nat _ (by omega)]
  refine ⟨fun heq => ?_, fun hne => fin h30 s (fun _ _ hbe => hne (by rw [hbe]))⟩
  have ew : IntKind.wrap .i64 ((c : Int) + 1) = ((c + 1 : Nat) : Int) := by rw [wrap_i64 (by omega) (by omega)]; omega
  rw [ew]
  refine ⟨⟨c + 1, rfl, by omega, by omega, fun i hi => ?_, s⟩, by show 256 - ((c + 1 : Nat) : Int).toNat < 256 - (c : Int).toNat; omega⟩
  by_cases hic : i = c
  · subst hic
    cases ea : bit p i <;> cases eb : bit q i <;> simp [ea, eb] at heq ⊢
  · exact hall i (by omega)

end Go.Proofs.Ytnaeicepapokjaa
