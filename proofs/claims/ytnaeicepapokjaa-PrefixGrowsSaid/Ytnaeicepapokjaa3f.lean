/- Keys and prefixes: the six laws' walks. -/
import Derived.Test.Ytnaeicepapokjaa3e
import Derived.Test.YtnaeicepapokjaaFb
set_option linter.unusedVariables false
set_option maxRecDepth 100000
namespace Go.Proofs.Ytnaeicepapokjaa
open Go Go.Vc Go.Proofs Go.Vc.Keys

noncomputable instance (p q : List UInt8) : Decidable (Less p q) := Classical.propDecidable _

theorem awake_ok {h : Heap} : CallsH Try.prog n_law03_awake #[] h fun v h' => v = .bool true ∧ Ext h h' := by
  refine C_law03_awake ?_
  unfold F_law03_awake
  have e1 : (List.toArray (Value.int IntKind.u8 (64 : Int) :: List.replicate (31 : Nat) (Value.int IntKind.u8 (0 : Int)))) = hv (64 :: List.replicate 31 0) := by simp [bcs]
  rw [e1, zero_pv]
  refine (bit_ok (by simp) 1).mono fun v h1 ⟨hv1, ex1⟩ => ⟨ex1, _, hv1, ?_⟩
  have e2 : bitI (64 :: List.replicate 31 0) 1 = 1 := by decide
  rw [e2]
  refine br_yes rfl ((formed_ok i64_0 zeros_length).mono fun v h4 ⟨hv2, ex4⟩ => ⟨ex4, _, hv2, ?_, ex1.trans ex4⟩)
  rw [decide_eq_true (show Formed 0 zeros from ⟨by omega, by omega, fun i _ _ => bit_zeros i⟩)]
theorem awake_br {h0 h : Heap} {l : List HP} {X Y : Heap → Prop} (s : St h0 h l) (hx : ∀ h', St h0 h' l → X h') :
    CallsH Try.prog n_law03_awake #[] h fun v h' => Ext h h' ∧ ∃ t, v = .bool t ∧ br t (X h') (Y h') :=
  awake_ok.mono fun v h' ⟨hv, e⟩ => ⟨e, _, hv, br_yes rfl (hx h' (s.keep e))⟩

theorem prefixBits_ok {h : Heap} {p q : List UInt8} (hp : p.length = 32) (hq : q.length = 32) (i : Int) :
    CallsH Try.prog n_law03_PrefixBits #[.agg (hv p), .agg (hv q), .int .i64 i] h fun v h' => v = .bool true ∧ Ext h h' := by
  refine C_law03_PrefixBits (hv p) (hv q) i ?_
  unfold F_law03_PrefixBits
  refine (St.start h).newBlk fun b0 h1 hb0 s e => s.newBlk fun b2 h3 hb2 s e2 => awake_br s fun h5 s => ?_
  refine ⟨_, rowKey s.up1 hp, _, rowKey s.up1 hp, (bit_ok hp i).mono fun v h10 ⟨hv1, e10⟩ => ⟨e10, _, hv1, (rbit_ok hp i).mono fun v h13 ⟨hv2, e13⟩ => ⟨e13, _, hv2, ?_⟩⟩⟩
  have s := (s.keep e10).keep e13
  refine br_yes (by simp) ⟨_, rowKey s.up1 hp, _, rowKey s hq, _, rowKey s.up1 hp, _, rowKey s hq, (shared_ok hp hq).mono fun v h20 ⟨⟨n, hv3, hn⟩, e20⟩ => ⟨e20, _, hv3, (sharedr_ok hp hq).mono fun v h23 ⟨⟨m, hv4, hm⟩, e23⟩ => ⟨e23, _, hv4, ?_⟩⟩⟩
  have := hn.uniq hm
  subst this
  have s := (s.keep e20).keep e23
  refine br_yes (by simp) ⟨_, rowKey s.up1 hp, _, rowKey s hq, _, rowKey s.up1 hp, _, rowKey s hq, (less_ok hp hq).mono fun v h30 ⟨hv5, e30⟩ => ⟨e30, _, hv5, (rless_ok hp hq).mono fun v h33 ⟨hv6, e33⟩ => ⟨e33, _, hv6, by simp, ?_⟩⟩⟩
  exact ((s.keep e30).keep e33).ext

theorem prefixMeets_ok {h : Heap} {l m : Int} {p q : List UInt8} (hl : I64 l) (hm : I64 m) (hp : p.length = 32) (hq : q.length = 32) :
    CallsH Try.prog n_law03_PrefixMeets #[.agg (pv l p), .agg (pv m q)] h fun v h' => v = .bool true ∧ Ext h h' := by
  refine C_law03_PrefixMeets (pv l p) (pv m q) ?_
  unfold F_law03_PrefixMeets
  refine (St.start h).newBlk fun b0 h1 hb0 s e => s.newBlk fun b2 h3 hb2 s e2 => awake_br s fun h5 s => ?_
  refine ⟨_, rowAll s.up1 hp, _, rowAll s hq, _, rowAll s.up1 hp, _, rowAll s hq, (meet_ok hl hm hp hq).mono fun v h12 ⟨⟨n, ls, hv1, g1, g2, g3⟩, e12⟩ => ⟨e12, _, pv_size g2, hv1, (rmeet_ok hp hq).mono fun v h15 ⟨⟨n', ls', hv2, g1', g2', g3'⟩, e15⟩ => ⟨e15, _, pv_size g2', hv2, ?_⟩⟩⟩
  obtain ⟨rfl, rfl⟩ := g1.uniq g1'
  have s := (s.keep e12).keep e15
  refine eq_prefix g3 g3 g2 g2 (br_yes (by simp) ?_)
  refine ⟨_, rowAll s.up1 hp, _, rowAll s hq, _, rowAll s.up1 hp, _, rowAll s hq, (within_ok hl hm hp hq).mono fun v h23 ⟨hv3, e23⟩ => ⟨e23, _, hv3, (rwithin_ok hp hq).mono fun v h26 ⟨hv4, e26⟩ => ⟨e26, _, hv4, by simp, ?_⟩⟩⟩
  exact ((s.keep e23).keep e26).ext

theorem prefixCuts_ok {h : Heap} {l : Int} {k p : List UInt8} (hl : I64 l) (hk : k.length = 32) (hp : p.length = 32) (n : Int) :
    CallsH Try.prog n_law03_PrefixCuts #[.agg (hv k), .int .i64 n, .agg (pv l p)] h fun v h' => v = .bool true ∧ Ext h h' := by
  refine C_law03_PrefixCuts (hv k) n (pv l p) ?_
  unfold F_law03_PrefixCuts
  refine (St.start h).newBlk fun b0 h1 hb0 s e => s.newBlk fun b2 h3 hb2 s e2 => ?_
  refine ⟨_, rowAll s hp, (child_ok n hl hp).mono fun v h6 ⟨⟨x, ls, ok, hv1, g1, g2, g3⟩, e6⟩ => ⟨e6, _, pv_size g2, _, hv1, ?_⟩⟩
  rw [zero_pv]
  refine (s.keep e6).newBlk fun b9 h10 hb9 s e10 => s.storeAll (pl_length zeros_length) (pv_size g2) (one_pv _ _) fun h11 s => ?_
  refine ⟨_, rowAll s.up1 hp, (rchild_ok n hl hp).mono fun v h14 ⟨⟨x', ls', ok', hv2, g1', g2', g3'⟩, e14⟩ => ⟨e14, _, pv_size g2', _, hv2, ?_⟩⟩
  obtain ⟨rfl, rfl, rfl⟩ := g1.uniq g1'
  refine (s.keep e14).newBlk fun b17 h18 hb17 s e18 => s.storeAll (pl_length zeros_length) (pv_size g2) (one_pv _ _) fun h19 s => awake_br s fun h21 s => ?_
  refine ⟨_, rowKey s.up3 hk, _, rowKey s.up3 hk, (cut_ok hk n).mono fun v h26 ⟨⟨cs, hv3, hc⟩, e26⟩ => ⟨e26, _, pv_size hc.1, hv3, (rcut_ok hk n).mono fun v h29 ⟨⟨cs', hv4, hc'⟩, e29⟩ => ⟨e29, _, pv_size hc'.1, hv4, ?_⟩⟩⟩
  have := hc.uniq hc'
  subst this
  have hcl := clamp_le n
  have s := (s.keep e26).keep e29
  refine eq_prefix (by unfold I64; omega) (by unfold I64; omega) hc.1 hc.1 (br_yes (by simp) ?_)
  refine ⟨_, rowAll s.up2 hp, _, rowAll s.up2 hp, (formed_ok hl hp).mono fun v h35 ⟨hv5, e35⟩ => ⟨e35, _, hv5, (rformed_ok hp).mono fun v h38 ⟨hv6, e38⟩ => ⟨e38, _, hv6, br_yes (by simp) ?_⟩⟩⟩
  have s := (s.keep e35).keep e38
  refine ⟨_, rowAll s.up2 hp, _, rowKey s.up3 hk, _, rowAll s.up2 hp, _, rowKey s.up3 hk, (holds_ok hl hp hk).mono fun v h45 ⟨hv7, e45⟩ => ⟨e45, _, hv7, (rholds_ok hp hk).mono fun v h48 ⟨hv8, e48⟩ => ⟨e48, _, hv8, br_yes (by simp) ?_⟩⟩⟩
  have s := (s.keep e45).keep e48
  refine ⟨_, rowAll s.up1 g2, _, rowAll s g2, eq_prefix g3 g3 g2 g2 (br_yes (by simp) ⟨by simp, s.ext⟩)⟩

theorem prefixOrder_ok {h : Heap} {a b c : List UInt8} (ha : a.length = 32) (hb : b.length = 32) (hc : c.length = 32) :
    CallsH Try.prog n_law03_PrefixOrder #[.agg (hv a), .agg (hv b), .agg (hv c)] h fun v h' => v = .bool true ∧ Ext h h' := by
  refine C_law03_PrefixOrder (hv a) (hv b) (hv c) ?_
  unfold F_law03_PrefixOrder
  refine (St.start h).newBlk fun b0 h1 hb0 s e => s.newBlk fun b2 h3 hb2 s e2 => s.newBlk fun b4 h5 hb4 s e4 => ?_
  refine ⟨_, rowKey s.up2 ha, _, rowKey s.up1 hb, _, rowKey s.up1 hb, _, rowKey s hc, _, rowKey s.up2 ha, _, rowKey s hc, (less_ok ha hb).mono fun v h13 ⟨hv1, e13⟩ => ⟨e13, _, hv1, (less_ok hb hc).mono fun v h16 ⟨hv2, e16⟩ => ⟨e16, _, hv2, (less_ok ha hc).mono fun v h19 ⟨hv3, e19⟩ => ⟨e19, _, hv3, ?_⟩⟩⟩⟩
  have s := ((s.keep e13).keep e16).keep e19
  refine awake_br s fun h22 s => ?_
  refine ⟨_, rowKey s.up2 ha, _, rowKey s.up1 hb, eq_hash ha hb ?_⟩
  have last : ∀ h9, St h h9 [pts b4 0 false (hv c).toList, pts b2 0 false (hv b).toList, pts b0 0 false (hv a).toList] →
      ∃ cs : Array Value, row h9 (Addr.mk b0 0 none) 32 = some cs ∧ ∃ cs' : Array Value, row h9 (Addr.mk b0 0 none) 32 = some cs' ∧ CallsH Try.prog n_prefix_Less #[.agg cs, .agg cs'] h9 fun v h' => Ext h9 h' ∧ ∃ t, v = .bool t ∧ (Value.bool (!t) = Value.bool true ∧ Ext h h') := by
    intro h9 s
    refine ⟨_, rowKey s.up2 ha, _, rowKey s.up2 ha, (less_ok ha ha).mono fun v h' ⟨hv1, e1⟩ => ⟨e1, _, hv1, ?_, s.ext.trans e1⟩⟩
    rw [decide_eq_false (less_irrefl a)]; rfl
  by_cases hab : Less a b
  · have hne : a ≠ b := fun e => by subst e; exact less_irrefl _ hab
    have hba := less_asymm hab
    simp only [decide_eq_true hab, decide_eq_false hne, Bool.not_true, br_true, br_false, beq_self_eq_true]
    refine ⟨_, rowKey s.up1 hb, _, rowKey s.up2 ha, (less_ok hb ha).mono fun v h70 ⟨hv4, e70⟩ => ⟨e70, _, hv4, br_yes (by rw [decide_eq_false hba]; rfl) ?_⟩⟩
    have s := s.keep e70
    by_cases hbc : Less b c
    · simp only [decide_eq_true hbc, Bool.not_true, br_false, decide_eq_true (less_trans hab hbc), br_true]
      exact last _ s
    · simp only [decide_eq_false hbc, Bool.not_false, br_true]
      exact last _ s
  · simp only [decide_eq_false hab, Bool.not_false, br_true, br_false]
    refine ⟨_, rowKey s.up1 hb, _, rowKey s.up2 ha, (less_ok hb ha).mono fun v h30 ⟨hv4, e30⟩ => ⟨e30, _, hv4, br_yes ?_ (last _ (s.keep e30))⟩⟩
    rw [beq_iff_eq, Bool.eq_iff_iff]
    simp only [decide_eq_true_iff, Bool.not_eq_true', decide_eq_false_iff_not]
    constructor
    · intro e; subst e; exact less_irrefl _
    · intro hba; exact less_total ha hb hab hba

theorem two {h0 h : Heap} {F : List HP} {x y : Nat} {zx zy : List Value} {cs ds : Array Value} {K : Heap → Prop} (s : St h0 h (pts x 0 false zx :: pts y 0 false zy :: F)) (hx : zx.length = 33) (hy : zy.length = 33) (hc : cs.size = 33) (hd : ds.size = 33) (oc : one cs) (od : one ds)
    (hk : ∀ h', St h0 h' (pts x 0 false cs.toList :: pts y 0 false ds.toList :: F) → K h') : storeP (some 33) h (Addr.mk x 0 none) (.agg cs) fun h' => storeP (some 33) h' (Addr.mk y 0 none) (.agg ds) K :=
  s.storeAll hx hc oc fun h1 s => s.up1.storeAll hy hd od fun h2 s => hk h2 s.up1
theorem cut_eq_iff {k o ls ms : List UInt8} {m : Nat} (h1 : IsCut k m ls) (h2 : IsCut o m ms) : ls = ms ↔ ∀ i, i < 256 → i < m → bit k i = bit o i := by
  constructor
  · intro e i hi him
    have a := h1.2 i hi
    have b := h2.2 i hi
    subst e
    rw [show decide (i < m) = true by simpa using him, Bool.and_true] at a b
    exact a.symm.trans b
  · intro hall
    refine ext h1.1 h2.1 fun i hi => ?_
    rw [h1.2 i hi, h2.2 i hi]
    by_cases him : i < m
    · rw [hall i hi him]
    · simp [him]
theorem cut_formed {k ls : List UInt8} {m : Nat} (hm : m ≤ 256) (h1 : IsCut k m ls) : Formed (m : Int) ls :=
  ⟨by omega, by omega, fun i hi hl => by rw [h1.2 i hi, show decide (i < m) = false by simp; omega, Bool.and_false]⟩
theorem cut_holds {k o ls : List UInt8} {m : Nat} (hm : m ≤ 256) (h1 : IsCut k m ls) : Holds (m : Int) ls o ↔ ∀ i, i < 256 → i < m → bit k i = bit o i := by
  constructor
  · intro hh i hi him
    have := hh.2 i hi (by omega)
    rw [h1.2 i hi, show decide (i < m) = true by simpa using him, Bool.and_true] at this
    exact this
  · intro hall
    refine ⟨cut_formed hm h1, fun i hi him => ?_⟩
    rw [h1.2 i hi, show decide (i < m) = true by simp; omega, Bool.and_true]
    exact hall i hi (by omega)

theorem prefixOwn_ok {h : Heap} {k o : List UInt8} (hk : k.length = 32) (ho : o.length = 32) {n : Nat} (hn : n < 65536) :
    CallsH Try.prog n_law03_PrefixOwn #[.agg (hv k), .agg (hv o), .int .u16 n] h fun v h' => v = .bool true ∧ Ext h h' := by
  refine C_law03_PrefixOwn (hv k) (hv o) n ?_
  unfold F_law03_PrefixOwn
  refine (St.start h).newBlk fun b0 h1 hb0 s e => s.newBlk fun b2 h3 hb2 s e2 => ⟨by omega, ?_⟩
  have em : IntKind.wrap .i64 (Int.tmod (n : Int) 257) = ((n % 257 : Nat) : Int) := by
    have : Int.tmod (n : Int) 257 = ((n % 257 : Nat) : Int) := rfl
    rw [this, wrap_i64 (by omega) (by omega)]
  rw [em, zero_pv]
  have hm : n % 257 ≤ 256 := by omega
  generalize n % 257 = m at hm ⊢
  have hcl : clampN (m : Int) = m := by rw [clamp_of (by omega) (by omega)]; rfl
  refine ⟨fun t h' => ∃ ls ms, IsCut k m ls ∧ IsCut o m ms ∧ St h h' [pts t.1 0 false (.int .i64 m :: bcs ls), pts t.2 0 false (.int .i64 m :: bcs ms), pts b2 0 false (bcs o), pts b0 0 false (bcs k)], ?_, ?_⟩
  · have c1 : ∀ {l : List HP} {h9 : Heap} {K : Array Value → Heap → Prop}, St h h9 l → (∀ ls h', IsCut k m ls → St h h' l → K (pv m ls) h') → CallsH Try.prog n_prefix_Cut #[.agg (hv k), .int .i64 m] h9 fun v h' => Ext h9 h' ∧ ∃ cs : Array Value, Array.size cs = 33 ∧ v = .agg cs ∧ K cs h' :=
      fun s hk' => (cut_ok hk m).mono fun v h' ⟨⟨ls, hv1, hc⟩, e'⟩ => by
        rw [hcl] at hc hv1
        exact ⟨e', _, pv_size hc.1, hv1, hk' ls h' hc (s.keep e')⟩
    have c2 : ∀ {l : List HP} {h9 : Heap} {K : Array Value → Heap → Prop}, St h h9 l → (∀ ls h', IsCut o m ls → St h h' l → K (pv m ls) h') → CallsH Try.prog n_prefix_Cut #[.agg (hv o), .int .i64 m] h9 fun v h' => Ext h9 h' ∧ ∃ cs : Array Value, Array.size cs = 33 ∧ v = .agg cs ∧ K cs h' :=
      fun s hk' => (cut_ok ho m).mono fun v h' ⟨⟨ls, hv1, hc⟩, e'⟩ => by
        rw [hcl] at hc hv1
        exact ⟨e', _, pv_size hc.1, hv1, hk' ls h' hc (s.keep e')⟩
    have z := pl_length (l := 0) zeros_length
    refine ⟨_, rowKey s.up1 hk, _, rowKey s ho, c1 s fun ls h8 hc s => ⟨c2 s fun ms h11 hd s => ⟨?_, ?_⟩, ?_, ?_⟩, ?_, ?_⟩
    · exact s.newBlk fun x h14 _ s _ => s.newBlk fun y h16 _ s _ => two s.up1 z z (pv_size hc.1) (pv_size hd.1) (one_pv _ _) (one_pv _ _) fun h' s => ⟨ls, ms, hc, hd, s⟩
    · exact s.newBlk fun x h14 _ s _ => s.newBlk fun y h16 _ s _ => two s z z (pv_size hc.1) (pv_size hd.1) (one_pv _ _) (one_pv _ _) fun h' s => ⟨ls, ms, hc, hd, s⟩
    · refine s.newBlk fun x h14 _ s _ => ⟨c2 s fun ms h28 hd s => ?_, ?_⟩
      · exact s.newBlk fun y h16 _ s _ => two s.up1 z z (pv_size hc.1) (pv_size hd.1) (one_pv _ _) (one_pv _ _) fun h' s => ⟨ls, ms, hc, hd, s⟩
      · exact s.newBlk fun y h16 _ s _ => c2 s fun ms h28 hd s => two s.up1 z z (pv_size hc.1) (pv_size hd.1) (one_pv _ _) (one_pv _ _) fun h' s => ⟨ls, ms, hc, hd, s⟩
    · refine s.newBlk fun x h14 _ s _ => ⟨c2 s fun ms h28 hd s => ?_, ?_⟩
      · exact s.newBlk fun y h16 _ s _ => two s z z (pv_size hc.1) (pv_size hd.1) (one_pv _ _) (one_pv _ _) fun h' s => ⟨ls, ms, hc, hd, s⟩
      · exact s.newBlk fun y h16 _ s _ => c2 s fun ms h28 hd s => two s z z (pv_size hc.1) (pv_size hd.1) (one_pv _ _) (one_pv _ _) fun h' s => ⟨ls, ms, hc, hd, s⟩
    · refine s.newBlk fun x h14 _ s _ => ⟨c1 s fun ls h28 hc s => ⟨c2 s fun ms h28 hd s => ?_, ?_⟩, ?_⟩
      · exact s.newBlk fun y h16 _ s _ => two s.up1 z z (pv_size hc.1) (pv_size hd.1) (one_pv _ _) (one_pv _ _) fun h' s => ⟨ls, ms, hc, hd, s⟩
      · exact s.newBlk fun y h16 _ s _ => c2 s fun ms h28 hd s => two s.up1 z z (pv_size hc.1) (pv_size hd.1) (one_pv _ _) (one_pv _ _) fun h' s => ⟨ls, ms, hc, hd, s⟩
      · exact s.newBlk fun y h16 _ s _ => c1 s fun ls h28 hc s => c2 s fun ms h28 hd s => two s.up1 z z (pv_size hc.1) (pv_size hd.1) (one_pv _ _) (one_pv _ _) fun h' s => ⟨ls, ms, hc, hd, s⟩
    · refine s.newBlk fun x h14 _ s _ => ⟨c1 s fun ls h28 hc s => ⟨c2 s fun ms h28 hd s => ?_, ?_⟩, ?_⟩
      · exact s.newBlk fun y h16 _ s _ => two s z z (pv_size hc.1) (pv_size hd.1) (one_pv _ _) (one_pv _ _) fun h' s => ⟨ls, ms, hc, hd, s⟩
      · exact s.newBlk fun y h16 _ s _ => c2 s fun ms h28 hd s => two s z z (pv_size hc.1) (pv_size hd.1) (one_pv _ _) (one_pv _ _) fun h' s => ⟨ls, ms, hc, hd, s⟩
      · exact s.newBlk fun y h16 _ s _ => c1 s fun ls h28 hc s => c2 s fun ms h28 hd s => two s z z (pv_size hc.1) (pv_size hd.1) (one_pv _ _) (one_pv _ _) fun h' s => ⟨ls, ms, hc, hd, s⟩
  rintro ⟨x, y⟩ h116 ⟨ls, ms, hc, hd, s⟩
  simp only at s ⊢
  have hmi : I64 (m : Int) := by unfold I64; omega
  refine awake_br s fun h118 s => ⟨_, rowAll s hc.1, (formed_ok hmi hc.1).mono fun v h122 ⟨hv1, e122⟩ => ⟨e122, _, hv1, br_yes (decide_eq_true (cut_formed hm hc)) ?_⟩⟩
  have s := s.keep e122
  simp only [add_mk, Nat.add_zero]
  refine ⟨(m : Int), s.cell0 rfl, br_yes (by simp) ⟨_, rowAll s hc.1, _, rowKey s.up3 hk, (holds_ok hmi hc.1 hk).mono fun v h128 ⟨hv2, e128⟩ => ⟨e128, _, hv2, br_yes (decide_eq_true ((cut_holds hm hc).2 fun _ _ _ => rfl)) ?_⟩⟩⟩
  have s := s.keep e128
  refine ⟨_, rowAll s.up1 hd.1, _, rowKey s.up3 hk, _, rowAll s hc.1, _, rowAll s.up1 hd.1, eq_prefix hmi hmi hc.1 hd.1 ((holds_ok hmi hd.1 hk).mono fun v h136 ⟨hv3, e136⟩ => ⟨e136, _, hv3, br_yes ?_ ?_⟩)⟩
  · rw [beq_iff_eq, decide_eq_decide, cut_holds hm hd, cut_eq_iff hc hd]
    constructor
    · exact fun hh => ⟨rfl, fun i hi him => (hh i hi him).symm⟩
    · exact fun hh i hi him => (hh.2 i hi him).symm
  · have s := s.keep e136
    refine ⟨_, rowKey s.up3 hk, _, rowKey s.up2 ho, _, rowAll s hc.1, _, rowAll s.up1 hd.1, eq_prefix hmi hmi hc.1 hd.1 ((shared_ok hk ho).mono fun v h144 ⟨⟨sh, hv4, hsh⟩, e144⟩ => ⟨e144, _, hv4, ?_, s.ext.trans e144⟩)⟩
    congr 1
    rw [beq_iff_eq, decide_eq_decide, ge_iff_le, hsh.ge (by omega), cut_eq_iff hc hd]
    constructor
    · exact fun hh => ⟨rfl, fun i hi him => hh i hi (by omega)⟩
    · exact fun hh i hi him => hh.2 i hi (by omega)

theorem child_facts {k ls : List UInt8} {n : Nat} (hn : n < 256) (hc : IsCut k n ls) {b x : Int} {cs : List UInt8} {ok : Bool} (hb : b = 0 ∨ b = 1) (hch : IsChild (n : Int) ls b x cs ok) :
    ok = true ∧ x = (n : Int) + 1 ∧ cs.length = 32 ∧ ∀ i, i < 256 → bit cs i = ((bit k i && decide (i < n)) || decide (i = n ∧ b = 1)) := by
  unfold IsChild at hch
  rw [if_pos ⟨cut_formed (by omega) hc, by omega, hb⟩] at hch
  refine ⟨hch.1, hch.2.1, hch.2.2.1, fun i hi => ?_⟩
  rw [hch.2.2.2 i hi, hc.2 i hi]
  congr 1
  simp only [decide_eq_decide]; omega
theorem grown_formed {k cs : List UInt8} {n : Nat} {b : Int} (hn : n < 256) (h2 : ∀ i, i < 256 → bit cs i = ((bit k i && decide (i < n)) || decide (i = n ∧ b = 1))) : Formed ((n : Int) + 1) cs :=
  ⟨by omega, by omega, fun i hi hl => by rw [h2 i hi, show decide (i < n) = false by simp; omega, Bool.and_false, show decide (i = n ∧ b = 1) = false by simp; omega]; rfl⟩
theorem grown_within {k ls cs : List UInt8} {n : Nat} {b : Int} (hn : n < 256) (hc : IsCut k n ls) (h2 : ∀ i, i < 256 → bit cs i = ((bit k i && decide (i < n)) || decide (i = n ∧ b = 1))) : Within (n : Int) ls ((n : Int) + 1) cs :=
  ⟨cut_formed (by omega) hc, grown_formed hn h2, by omega, fun i hi hl => by rw [h2 i hi, hc.2 i hi, show decide (i = n ∧ b = 1) = false by simp; omega, Bool.or_false]⟩
theorem grown_holds {k cs : List UInt8} {n : Nat} {b : Int} (hn : n < 256) (hb : b = 0 ∨ b = 1) (h2 : ∀ i, i < 256 → bit cs i = ((bit k i && decide (i < n)) || decide (i = n ∧ b = 1))) : Holds ((n : Int) + 1) cs k ↔ bit k n = decide (b = 1) := by
  constructor
  · intro hh
    have := hh.2 n hn (by omega)
    rw [h2 n hn] at this
    simpa using this.symm
  · intro e
    refine ⟨grown_formed hn h2, fun i hi hl => ?_⟩
    rw [h2 i hi]
    by_cases hin : i = n
    · subst hin; simp [e]
    · rw [show decide (i < n) = true by simp; omega, show decide (i = n ∧ b = 1) = false by simp; omega]; simp
theorem grown_meet {k ls as' bs' : List UInt8} {n : Nat} (hn : n < 256) (hc : IsCut k n ls) (ha : ∀ i, i < 256 → bit as' i = ((bit k i && decide (i < n)) || decide (i = n ∧ (0 : Int) = 1)))
    (hb : ∀ i, i < 256 → bit bs' i = ((bit k i && decide (i < n)) || decide (i = n ∧ (1 : Int) = 1))) {x : Int} {ms : List UInt8} (hm : IsMeet ((n : Int) + 1) as' ((n : Int) + 1) bs' x ms) : x = n ∧ ms = ls := by
  unfold IsMeet at hm
  rw [if_pos ⟨grown_formed hn ha, grown_formed hn hb⟩] at hm
  obtain ⟨sh, h1, h2, h3⟩ := hm
  have hs : Sh as' bs' n := by
    refine ⟨by omega, fun i hi => ?_, fun _ => ?_⟩
    · rw [ha i (by omega), hb i (by omega), show decide (i = n ∧ (0 : Int) = 1) = false by simp, show decide (i = n ∧ (1 : Int) = 1) = false by simp; omega]
    · rw [ha n hn, hb n hn]; simp
  have := h1.uniq hs
  subst this
  have hx : x = (sh : Int) := by omega
  subst hx
  refine ⟨rfl, ext h3.1 hc.1 fun i hi => ?_⟩
  rw [h3.2 i hi, hc.2 i hi, ha i hi, Int.toNat_natCast]
  by_cases hi' : i < sh
  · simp [hi']
  · simp [hi']
theorem prefixGrows_ok {h : Heap} {k : List UInt8} (hk : k.length = 32) {n : Nat} (hn : n < 256) :
    CallsH Try.prog n_law03_PrefixGrows #[.agg (hv k), .int .u8 n] h fun v h' => v = .bool true ∧ Ext h h' := by
  refine C_law03_PrefixGrows (hv k) n ?_
  unfold F_law03_PrefixGrows
  have ew : IntKind.wrap .i64 (n : Int) = (n : Int) := wrap_i64 (by omega) (by omega)
  have ew1 : IntKind.wrap .i64 ((n : Int) + 1) = ((n + 1 : Nat) : Int) := by rw [wrap_i64 (by omega) (by omega)]; omega
  have hcl : clampN (n : Int) = n := by rw [clamp_of (by omega) (by omega)]; rfl
  have hcl1 : clampN ((n + 1 : Nat) : Int) = n + 1 := by rw [clamp_of (by omega) (by omega)]; rfl
  have hni : I64 (n : Int) := by unfold I64; omega
  have hni1 : I64 ((n : Int) + 1) := by unfold I64; omega
  have z := pl_length (l := 0) zeros_length
  rw [ew, ew1, zero_pv]
  refine (St.start h).newBlk fun b0 h1 hb0 s e => ⟨_, rowKey s hk, (cut_ok hk n).mono fun v h4 ⟨⟨ls, hv1, hc⟩, e4⟩ => ?_⟩
  rw [hcl] at hc hv1
  refine ⟨e4, _, pv_size hc.1, hv1, (s.keep e4).newBlk fun b6 h7 hb6 s e7 => s.storeAll z (pv_size hc.1) (one_pv _ _) fun h8 s => ?_⟩
  refine ⟨_, rowAll s hc.1, (child_ok 0 hni hc.1).mono fun v h11 ⟨⟨x, cs0, ok0, hv2, g1, g2, g3⟩, e11⟩ => ⟨e11, _, pv_size g2, _, hv2, ?_⟩⟩
  obtain ⟨rfl, rfl, _, a4⟩ := child_facts hn hc (.inl rfl) g1
  refine (s.keep e11).newBlk fun b14 h15 hb14 s e15 => s.storeAll z (pv_size g2) (one_pv _ _) fun h16 s => ?_
  refine ⟨_, rowAll s.up1 hc.1, (child_ok 1 hni hc.1).mono fun v h19 ⟨⟨y, cs1, ok1, hv3, f1, f2, f3⟩, e19⟩ => ⟨e19, _, pv_size f2, _, hv3, ?_⟩⟩
  obtain ⟨rfl, rfl, _, b4⟩ := child_facts hn hc (.inr rfl) f1
  refine (s.keep e19).newBlk fun b22 h23 hb22 s e23 => s.storeAll z (pv_size f2) (one_pv _ _) fun h24 s => ?_
  refine ⟨fun _ h' => St h h' [pts b22 0 false (.int .i64 ((n : Int) + 1) :: bcs cs1), pts b14 0 false (.int .i64 ((n : Int) + 1) :: bcs cs0), pts b6 0 false (.int .i64 n :: bcs ls), pts b0 0 false (bcs k)], ?_, ?_⟩
  · refine awake_ok.mono fun v h27 ⟨hv4, e27⟩ => ⟨e27, _, hv4, br_no rfl (br_no rfl (br_no rfl ?_))⟩
    have s := s.keep e27
    refine ⟨_, rowAll s.up1 g2, _, rowAll s f2, _, rowAll s.up2 hc.1, (meet_ok g3 f3 g2 f2).mono fun v h33 ⟨⟨x, ms, hv5, m1, m2, m3⟩, e33⟩ => ⟨e33, _, pv_size m2, hv5, ?_⟩⟩
    obtain ⟨rfl, rfl⟩ := grown_meet hn hc a4 b4 m1
    refine eq_prefix hni hni hc.1 hc.1 (br_no (by simp) ?_)
    have s := s.keep e33
    refine ⟨_, rowAll s.up2 hc.1, _, rowAll s.up1 g2, (within_ok hni g3 hc.1 g2).mono fun v h39 ⟨hv6, e39⟩ => ⟨e39, _, hv6, br_no (by rw [decide_eq_true (grown_within hn hc a4)]; rfl) ?_⟩⟩
    have s := s.keep e39
    refine ⟨_, rowAll s.up2 hc.1, _, rowAll s f2, (within_ok hni f3 hc.1 f2).mono fun v h44 ⟨hv7, e44⟩ => ⟨e44, _, hv7, br_no (by rw [decide_eq_true (grown_within hn hc b4)]; rfl) ?_⟩⟩
    have s := s.keep e44
    refine ⟨_, rowAll s.up1 g2, _, rowAll s.up2 hc.1, (within_ok g3 hni g2 hc.1).mono fun v h49 ⟨hv8, e49⟩ => ⟨e49, _, hv8, br_no (decide_eq_false fun hw => ?_) (s.keep e49)⟩⟩
    have := hw.2.2.1
    omega
  intro _ h52 s
  refine ⟨fun t h' => ∃ cs, IsCut k (n + 1) cs ∧ t.2 = true ∧ St h h' [pts t.1 0 false (.int .i64 ((n : Int) + 1) :: bcs cs), pts b22 0 false (.int .i64 ((n : Int) + 1) :: bcs cs1), pts b14 0 false (.int .i64 ((n : Int) + 1) :: bcs cs0), pts b6 0 false (.int .i64 n :: bcs ls), pts b0 0 false (bcs k)], ?_, ?_⟩
  · have hbit : bitI k (n : Int) = 0 ∨ bitI k (n : Int) = 1 := by rw [bitI_nat k hn]; split <;> simp
    have c1 : ∀ {l : List HP} {h9 : Heap} {K : Array Value → Bool → Heap → Prop}, St h h9 l → (∀ cs h', IsCut k (n + 1) cs → St h h' l → K (pv ((n : Int) + 1) cs) true h') → CallsH Try.prog n_prefix_Child #[.agg (pv n ls), .int .i64 (bitI k n)] h9 fun v h' => Ext h9 h' ∧ ∃ cs : Array Value, Array.size cs = 33 ∧ ∃ t, v = .tuple #[.agg cs, .bool t] ∧ K cs t h' :=
      fun s hk' => (child_ok (bitI k n) hni hc.1).mono fun v h' ⟨⟨x, cs, ok, hv1, q1, q2, q3⟩, e'⟩ => by
        obtain ⟨rfl, rfl, _, q4⟩ := child_facts hn hc hbit q1
        refine ⟨e', _, pv_size q2, _, hv1, hk' cs h' ⟨q2, fun i hi => ?_⟩ (s.keep e')⟩
        rw [q4 i hi]
        by_cases hin : i = n
        · subst hin
          rw [bitI_nat k hn]
          cases hb : bit k i <;> simp
        · rw [show decide (i = n ∧ bitI k n = 1) = false by simp; omega, Bool.or_false]
          congr 1
          simp only [decide_eq_decide]; omega
    refine ⟨_, rowAll s.up2 hc.1, _, rowKey s.up3 hk, (bit_ok hk n).mono fun v h57 ⟨hv4, e57⟩ => ⟨e57, _, hv4, ?_, ?_⟩, ?_⟩
    · exact c1 (s.keep e57) fun cs h60 hcs s => s.newBlk fun x h64 _ s _ => s.storeAll z (pv_size hcs.1) (one_pv _ _) fun h65 s => ⟨cs, hcs, rfl, s⟩
    · exact (s.keep e57).newBlk fun x h64 _ s _ => c1 s fun cs h60 hcs s => s.storeAll z (pv_size hcs.1) (one_pv _ _) fun h65 s => ⟨cs, hcs, rfl, s⟩
    · exact s.newBlk fun x h64 _ s _ => (bit_ok hk n).mono fun v h57 ⟨hv4, e57⟩ => ⟨e57, _, hv4, c1 (s.keep e57) fun cs h60 hcs s => s.storeAll z (pv_size hcs.1) (one_pv _ _) fun h65 s => ⟨cs, hcs, rfl, s⟩⟩
  rintro ⟨x, t⟩ h84 ⟨cs, hcs, ht, s⟩
  simp only at ht s ⊢
  subst ht
  refine br_yes rfl ⟨_, rowAll s hcs.1, _, rowKey s.up4 hk, (cut_ok hk _).mono fun v h88 ⟨⟨ds, hv5, hds⟩, e88⟩ => ?_⟩
  rw [hcl1] at hds hv5
  have := hds.uniq hcs
  subst this
  refine ⟨e88, _, pv_size hds.1, hv5, eq_prefix hni1 (by unfold I64; omega) hds.1 hds.1 (br_yes (decide_eq_true ⟨by omega, rfl⟩) ?_)⟩
  have s := s.keep e88
  refine ⟨_, rowAll s.up2 g2, _, rowKey s.up4 hk, _, rowAll s.up1 f2, _, rowKey s.up4 hk, (holds_ok hni1 g2 hk).mono fun v h96 ⟨hv6, e96⟩ => ⟨e96, _, hv6, (holds_ok hni1 f2 hk).mono fun v h99 ⟨hv7, e99⟩ => ⟨e99, _, hv7, ?_, ((s.keep e96).keep e99).ext⟩⟩⟩
  congr 1
  have e1 : decide (Holds ((n : Int) + 1) cs0 k) = !bit k n := by
    rw [Bool.eq_iff_iff, decide_eq_true_iff, grown_holds hn (.inl rfl) a4]
    cases bit k n <;> simp
  have e2 : decide (Holds ((n : Int) + 1) cs1 k) = bit k n := by
    rw [Bool.eq_iff_iff, decide_eq_true_iff, grown_holds hn (.inr rfl) b4]
    cases bit k n <;> simp
  rw [e1, e2]
  cases bit k n <;> rfl
end Go.Proofs.Ytnaeicepapokjaa
