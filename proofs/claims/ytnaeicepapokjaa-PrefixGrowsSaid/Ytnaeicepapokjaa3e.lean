/- Keys and prefixes: child and less. -/
import Derived.Test.Ytnaeicepapokjaa3d
set_option linter.unusedVariables false
namespace Go.Proofs.Ytnaeicepapokjaa
open Go Go.Vc Go.Proofs Go.Vc.Keys

theorem child_no {l b : Int} {p : List UInt8} (hn : ¬ (Formed l p ∧ l ≤ 255 ∧ (b = 0 ∨ b = 1))) : IsChild l p b 0 zeros false := by unfold IsChild; rw [if_neg hn]; exact ⟨rfl, rfl, rfl⟩
theorem i64_0 : I64 0 := by unfold I64; omega
/-- The last byte of a prefix with one bit more. -/
theorem child_set {l : Int} {p : List UInt8} (hp : p.length = 32) {n : Nat} (hn : n < 256) (hl : l = n) {y : UInt8} (hy : y.toNat = (p[n / 8]'(by omega)).toNat ||| 128 / 2 ^ (n % 8)) :
    ∀ i : Nat, i < 256 → bit (p.set (n / 8) y) i = (bit p i || decide ((i : Int) = l ∧ (1 : Int) = 1)) := by
  intro i hi
  rw [bit_set (by omega)]
  obtain ⟨h1, h2⟩ := or_bits ⟨n % 8, by omega⟩ ⟨(p[n / 8]'(by omega)).toNat, u8_lt _⟩
  simp only at h1 h2
  subst hl
  by_cases hin : i / 8 = n / 8
  · rw [if_pos hin, hy, h2 ⟨i % 8, by omega⟩, bit_get hp hi]
    congr 1
    · congr 2; simp [hin]
    · rw [decide_eq_decide]
      constructor
      · intro e
        have e : i % 8 = n % 8 := e
        exact ⟨by omega, rfl⟩
      · rintro ⟨e, _⟩
        show i % 8 = n % 8
        omega
  · rw [if_neg hin, show decide ((i : Int) = (n : Int) ∧ (1 : Int) = 1) = false by simp; intro e; exact hin (by omega), Bool.or_false]
theorem child_ok {h : Heap} {l : Int} {p : List UInt8} (b : Int) (hl : I64 l) (hp : p.length = 32) :
    CallsH Try.prog n_prefix_Child #[.agg (pv l p), .int .i64 b] h fun v h' => (∃ n ls ok, v = .tuple #[.agg (pv n ls), .bool ok] ∧ IsChild l p b n ls ok ∧ ls.length = 32 ∧ I64 n) ∧ Ext h h' := by
  refine C_prefix_Child (pv l p) b ?_
  unfold F_prefix_Child
  refine (St.start h).newBlk fun b0 h1 hb0 s e => s.newBlk fun b2 h3 hb2 s e2 => ?_
  simp only [zero_pv] at s ⊢
  simp only [add_mk, Nat.zero_add, Nat.add_zero]
  have no : ∀ h9, St h h9 [pts b2 0 false (pv 0 zeros).toList, pts b0 0 false (pv l p).toList] → ¬ (Formed l p ∧ l ≤ 255 ∧ (b = 0 ∨ b = 1)) →
      storeP (some 33) h9 (Addr.mk b2 0 none) (.agg (pv 0 zeros)) fun h8 => ∃ cs9, row h8 (Addr.mk b2 0 none) 33 = some cs9 ∧ ((∃ n ls ok, Value.tuple #[.agg cs9, .bool false] = .tuple #[.agg (pv n ls), .bool ok] ∧ IsChild l p b n ls ok ∧ ls.length = 32 ∧ I64 n) ∧ Ext h h8) :=
    fun h9 s hno => s.ret (pl_length zeros_length) (pv_size zeros_length) (one_pv _ _) (R := fun cs h8 => (∃ n ls ok, Value.tuple #[.agg cs, .bool false] = .tuple #[.agg (pv n ls), .bool ok] ∧ IsChild l p b n ls ok ∧ ls.length = 32 ∧ I64 n) ∧ Ext h h8) fun h' e => ⟨⟨0, zeros, false, rfl, child_no hno, zeros_length, i64_0⟩, e⟩
  refine ⟨pv l p, rowAll s.up1 hp, (formed_ok hl hp).mono fun v h6 ⟨hv1, e6⟩ => ⟨e6, _, hv1, ?_⟩⟩
  have s := s.keep e6
  rw [br_not, br_decide]
  refine ⟨fun hf => ⟨l, s.up1.cell0 rfl, ?_⟩, fun hf => no h6 s (fun hh => hf hh.1)⟩
  have h01 := hf.1
  have h02 := hf.2.1
  rw [br_beq]
  refine ⟨fun h256 => no h6 s (fun hh => by omega), fun h256 => ?_⟩
  rw [br_decide]
  refine ⟨fun hb => no h6 s (fun hh => by omega), fun hb => ?_⟩
  rw [br_decide]
  refine ⟨fun hb => no h6 s (fun hh => by omega), fun hb' => ?_⟩
  have hcond : Formed l p ∧ l ≤ 255 ∧ (b = 0 ∨ b = 1) := ⟨hf, by omega, by omega⟩
  have yes : ∀ h9 ls, St h h9 [pts b0 0 false (.int .i64 l :: bcs ls), pts b2 0 false (pv 0 zeros).toList] → ls.length = 32 → (∀ i : Nat, i < 256 → bit ls i = (bit p i || decide ((i : Int) = l ∧ b = 1))) →
      ∃ n, cell h9 (Addr.mk b0 0 none) = some (.int .i64 n) ∧ storeP none h9 (Addr.mk b0 0 none) (.int .i64 (IntKind.wrap .i64 (n + 1))) fun h22 => ∃ cs23, row h22 (Addr.mk b0 0 none) 33 = some cs23 ∧
        storeP (some 33) h22 (Addr.mk b2 0 none) (.agg cs23) fun h24 => ∃ cs25, row h24 (Addr.mk b2 0 none) 33 = some cs25 ∧ ((∃ n ls ok, Value.tuple #[.agg cs25, .bool true] = .tuple #[.agg (pv n ls), .bool ok] ∧ IsChild l p b n ls ok ∧ ls.length = 32 ∧ I64 n) ∧ Ext h h24) := by
    intro h9 ls s hls hbits
    refine ⟨l, s.cell0 rfl, s.store0 (by simp) rfl fun h22 s => ?_⟩
    rw [wrap_i64 (by omega) (by omega)] at s
    refine ⟨_, rowAll s hls, s.up1.ret (pl_length zeros_length) (pv_size hls) (one_pv _ _) (R := fun cs h8 => (∃ n ls ok, Value.tuple #[.agg cs, .bool true] = .tuple #[.agg (pv n ls), .bool ok] ∧ IsChild l p b n ls ok ∧ ls.length = 32 ∧ I64 n) ∧ Ext h h8) fun h' e => ⟨⟨l + 1, ls, true, rfl, ?_, hls, by unfold I64; omega⟩, e⟩⟩
    unfold IsChild
    rw [if_pos hcond]
    exact ⟨rfl, rfl, hls, hbits⟩
  rw [br_beq]
  refine ⟨fun hb1 => ?_, fun hb1 => ?_⟩
  · subst hb1
    obtain ⟨n, rfl⟩ : ∃ n : Nat, l = n := ⟨l.toNat, by omega⟩
    have e1 : Int.tdiv (n : Int) 8 = ((n / 8 : Nat) : Int) := rfl
    have e2 : Int.tmod (n : Int) 8 = ((n % 8 : Nat) : Int) := rfl
    have hn : n < 256 := by omega
    obtain ⟨g1, g2⟩ := or_bits ⟨n % 8, by omega⟩ ⟨(p[n / 8]'(by omega)).toNat, u8_lt _⟩
    simp only at g1
    have h128 : 128 / 2 ^ (n % 8) < 256 := Nat.lt_of_le_of_lt (Nat.div_le_self _ _) (by omega)
    refine ⟨(n : Int), s.up1.cell0 rfl, ?_⟩
    rw [e1, wrap_i64 (n := ((n / 8 : Nat) : Int)) (by omega) (by omega)]
    have hi : (Value.int .i64 (n : Int) :: bcs p)[1 + n / 8]? = some (.int .u8 ((p[n / 8]'(by omega)).toNat : Int)) := by
      rw [Nat.add_comm, List.getElem?_cons_succ]; exact bcs_get (by omega)
    refine ⟨by omega, by omega, by omega, ((p[n / 8]'(by omega)).toNat : Int), ?_, (n : Int), s.up1.cell0 rfl, by omega, ?_, by omega, by omega, ?_⟩
    · simp only [Int.toNat_natCast, Nat.mul_one]; exact s.up1.cell0 hi
    · rw [e2]; omega
    · rw [e2]
      have hsh : shrI .u8 128 ((n % 8 : Nat) : Int) = ((128 / 2 ^ (n % 8) : Nat) : Int) := shrI_nat .u8 128 (n % 8) (show n % 8 ≤ 8 by omega)
      rw [hsh, orI_u8 (u8_lt _) h128, byte_of g1]
      simp only [Int.toNat_natCast, Nat.mul_one]
      refine s.up1.store0 (by simp [bcs_length]; omega) rfl fun h20 s => ?_
      have es : (Value.int .i64 (n : Int) :: bcs p).set (1 + n / 8) (.int .u8 ((UInt8.ofNat ((p[n / 8]'(by omega)).toNat ||| 128 / 2 ^ (n % 8))).toNat : Int)) = .int .i64 (n : Int) :: bcs (p.set (n / 8) (UInt8.ofNat ((p[n / 8]'(by omega)).toNat ||| 128 / 2 ^ (n % 8)))) := by
        rw [Nat.add_comm, List.set_cons_succ, bcs_set]
      have s : St h h20 [pts b0 0 false (.int .i64 (n : Int) :: bcs (p.set (n / 8) (UInt8.ofNat ((p[n / 8]'(by omega)).toNat ||| 128 / 2 ^ (n % 8))))), pts b2 0 false (pv 0 zeros).toList] := by rw [← es]; exact s
      refine yes h20 _ s (by simpa using hp) (child_set hp hn rfl ?_)
      generalize (p[n / 8]'(by omega)).toNat ||| 128 / 2 ^ (n % 8) = z at g1
      rw [UInt8.toNat_ofNat']; omega
  · refine yes h6 p s.up1 hp fun i hi => ?_
    rw [show decide ((i : Int) = l ∧ b = 1) = false by simp; intro _; exact hb1, Bool.or_false]

theorem rchild_ok {h : Heap} {l : Int} {p : List UInt8} (b : Int) (hl : I64 l) (hp : p.length = 32) :
    CallsH Try.prog n_ref03_Child #[.agg (pv l p), .int .i64 b] h fun v h' => (∃ n ls ok, v = .tuple #[.agg (pv n ls), .bool ok] ∧ IsChild l p b n ls ok ∧ ls.length = 32 ∧ I64 n) ∧ Ext h h' := by
  refine C_ref03_Child (pv l p) b ?_
  unfold F_ref03_Child
  refine (St.start h).newBlk fun b0 h1 hb0 s e => s.newBlk fun b2 h3 hb2 s e2 => ?_
  simp only [zero_pv] at s ⊢
  simp only [add_mk, Nat.zero_add, Nat.add_zero]
  have no : ∀ h9, St h h9 [pts b2 0 false (pv 0 zeros).toList, pts b0 0 false (pv l p).toList] → ¬ (Formed l p ∧ l ≤ 255 ∧ (b = 0 ∨ b = 1)) →
      storeP (some 33) h9 (Addr.mk b2 0 none) (.agg (pv 0 zeros)) fun h8 => ∃ cs9, row h8 (Addr.mk b2 0 none) 33 = some cs9 ∧ ((∃ n ls ok, Value.tuple #[.agg cs9, .bool false] = .tuple #[.agg (pv n ls), .bool ok] ∧ IsChild l p b n ls ok ∧ ls.length = 32 ∧ I64 n) ∧ Ext h h8) :=
    fun h9 s hno => s.ret (pl_length zeros_length) (pv_size zeros_length) (one_pv _ _) (R := fun cs h8 => (∃ n ls ok, Value.tuple #[.agg cs, .bool false] = .tuple #[.agg (pv n ls), .bool ok] ∧ IsChild l p b n ls ok ∧ ls.length = 32 ∧ I64 n) ∧ Ext h h8) fun h' e => ⟨⟨0, zeros, false, rfl, child_no hno, zeros_length, i64_0⟩, e⟩
  refine ⟨pv l p, rowAll s.up1 hp, (rformed_ok hp).mono fun v h6 ⟨hv1, e6⟩ => ⟨e6, _, hv1, ?_⟩⟩
  have s := s.keep e6
  rw [br_not, br_decide]
  refine ⟨fun hf => ⟨l, s.up1.cell0 rfl, ?_⟩, fun hf => no h6 s (fun hh => hf hh.1)⟩
  have h01 := hf.1
  have h02 := hf.2.1
  rw [br_decide]
  refine ⟨fun h256 => no h6 s (fun hh => by omega), fun h256 => ?_⟩
  have main : (b = 0 ∨ b = 1) → ∃ n15, cell h6 (Addr.mk b0 0 none) = some (.int .i64 n15) ∧ ∃ cs16 : Array Value, row h6 (Addr.mk b0 1 none) 32 = some cs16 ∧ Array.size cs16 = 32 ∧
      newBlk h6 t_api_Prefix (pv 0 zeros) fun b17 h18 => storeP (some 33) h18 (Addr.mk b17 0 none) (.agg (List.toArray (.int .i64 (IntKind.wrap .i64 (n15 + 1)) :: (Array.toList cs16 ++ [])))) fun h19 =>
        br (b == 1)
          (∃ cs20, row h19 (Addr.mk b17 1 none) 32 = some cs20 ∧ ∃ n21, cell h19 (Addr.mk b0 0 none) = some (.int .i64 n21) ∧ CallsH Try.prog n_ref03_Set #[.agg cs20, .int .i64 n21] h19 fun v22 h23 => Ext h19 h23 ∧ ∃ cs24 : Array Value, Array.size cs24 = 32 ∧ v22 = .agg cs24 ∧
            storeP (some 32) h23 (Addr.mk b17 1 none) (.agg cs24) fun h25 => ∃ cs26, row h25 (Addr.mk b17 0 none) 33 = some cs26 ∧ storeP (some 33) h25 (Addr.mk b2 0 none) (.agg cs26) fun h27 =>
              ∃ cs28, row h27 (Addr.mk b2 0 none) 33 = some cs28 ∧ ((∃ n ls ok, Value.tuple #[.agg cs28, .bool true] = .tuple #[.agg (pv n ls), .bool ok] ∧ IsChild l p b n ls ok ∧ ls.length = 32 ∧ I64 n) ∧ Ext h h27))
          (∃ cs29, row h19 (Addr.mk b17 0 none) 33 = some cs29 ∧ storeP (some 33) h19 (Addr.mk b2 0 none) (.agg cs29) fun h30 =>
              ∃ cs31, row h30 (Addr.mk b2 0 none) 33 = some cs31 ∧ ((∃ n ls ok, Value.tuple #[.agg cs31, .bool true] = .tuple #[.agg (pv n ls), .bool ok] ∧ IsChild l p b n ls ok ∧ ls.length = 32 ∧ I64 n) ∧ Ext h h30)) := by
    intro hb
    have hcond : Formed l p ∧ l ≤ 255 ∧ (b = 0 ∨ b = 1) := ⟨hf, by omega, hb⟩
    refine ⟨l, s.up1.cell0 rfl, hv p, rowTail s.up1 hp, hv_size hp, s.newBlk fun b17 h18 hb17 s e18 => ?_⟩
    rw [wrap_i64 (by omega) (by omega)]
    have epv : (List.toArray (.int .i64 (l + 1) :: (Array.toList (hv p) ++ []))) = pv (l + 1) p := by simp
    rw [epv]
    refine s.storeAll (pl_length zeros_length) (pv_size hp) (one_pv _ _) fun h19 s => ?_
    rw [br_beq]
    refine ⟨fun hb1 => ?_, fun hb1 => ?_⟩
    · obtain ⟨n, hn⟩ : ∃ n : Nat, l = n := ⟨l.toNat, by omega⟩
      refine ⟨hv p, rowTail s hp, l, s.up2.cell0 rfl, ?_⟩
      rw [show (Value.int .i64 l) = .int .i64 (n : Int) by rw [hn]]
      refine (set_ok hp (i := n) (by omega)).mono fun v h23 ⟨⟨ls, hv2, hls⟩, e23⟩ => ⟨e23, _, hv_size hls.1, hv2, ?_⟩
      refine St.storeTail (s.keep e23) (by rw [bcs_length, hp]) (hv_size hls.1) (one_hv ls) fun h25 s => ⟨pv (l + 1) ls, rowAll s hls.1, ?_⟩
      refine s.up1.ret (pl_length zeros_length) (pv_size hls.1) (one_pv _ _) (R := fun cs h8 => (∃ n ls ok, Value.tuple #[.agg cs, .bool true] = .tuple #[.agg (pv n ls), .bool ok] ∧ IsChild l p b n ls ok ∧ ls.length = 32 ∧ I64 n) ∧ Ext h h8) fun h' e => ⟨⟨l + 1, ls, true, rfl, ?_, hls.1, by unfold I64; omega⟩, e⟩
      unfold IsChild
      rw [if_pos hcond]
      refine ⟨rfl, rfl, hls.1, fun i hi => ?_⟩
      rw [hls.2 i hi]
      congr 1
      simp only [decide_eq_decide]; omega
    · refine ⟨pv (l + 1) p, rowAll s hp, ?_⟩
      refine s.up1.ret (pl_length zeros_length) (pv_size hp) (one_pv _ _) (R := fun cs h8 => (∃ n ls ok, Value.tuple #[.agg cs, .bool true] = .tuple #[.agg (pv n ls), .bool ok] ∧ IsChild l p b n ls ok ∧ ls.length = 32 ∧ I64 n) ∧ Ext h h8) fun h' e => ⟨⟨l + 1, p, true, rfl, ?_, hp, by unfold I64; omega⟩, e⟩
      unfold IsChild
      rw [if_pos hcond]
      refine ⟨rfl, rfl, hp, fun i hi => ?_⟩
      rw [show decide ((i : Int) = l ∧ b = 1) = false by simp; intro _; exact hb1, Bool.or_false]
  rw [br_bne]
  refine ⟨fun hb0 => ?_, fun hb0 => main (.inl hb0)⟩
  rw [br_bne]
  exact ⟨fun hb1 => no h6 s (fun hh => by omega), fun hb1 => main (.inr hb1)⟩

theorem less_ok {h : Heap} {p q : List UInt8} (hp : p.length = 32) (hq : q.length = 32) [Decidable (Less p q)] : CallsH Try.prog n_prefix_Less #[.agg (hv p), .agg (hv q)] h fun v h' => v = .bool (decide (Less p q)) ∧ Ext h h' := by
  refine C_prefix_Less (hv p) (hv q) ?_
  unfold F_prefix_Less
  refine (St.start h).newBlk fun b0 h1 hb0 s e => s.newBlk fun b2 h3 hb2 s e2 => ?_
  refine ⟨by omega, by omega, by omega, by omega, by omega, by omega, by omega, by omega, ?_⟩
  simp only [Int.toNat_zero, Nat.zero_mul, Option.map_some, add_mk, Nat.add_zero, Nat.sub_zero]
  refine C_bytes_Compare _ _ _ _ _ _ ?_
  unfold F_bytes_Compare
  refine ⟨p, q, ?_, ?_, Ext.refl _, _, rfl, ?_, s.ext⟩
  · have := rowKey s.up1 hp
    simpa [src] using this
  · have := rowKey s hq
    simpa [src] using this
  · congr 2
    rw [eq_iff_iff]
    exact less_compare hp hq
theorem rless_ok {h : Heap} {p q : List UInt8} (hp : p.length = 32) (hq : q.length = 32) [Decidable (Less p q)] : CallsH Try.prog n_ref03_Less #[.agg (hv p), .agg (hv q)] h fun v h' => v = .bool (decide (Less p q)) ∧ Ext h h' := by
  refine C_ref03_Less (hv p) (hv q) ?_
  unfold F_ref03_Less
  refine (St.start h).newBlk fun b0 h1 hb0 s e => s.newBlk fun b2 h3 hb2 s e2 => ?_
  refine ⟨hv p, rowKey s.up1 hp, hv q, rowKey s hq, (sharedr_ok hp hq).mono fun v h7 ⟨⟨n, hv1, hsh⟩, e7⟩ => ⟨e7, _, hv1, ?_⟩⟩
  have s := s.keep e7
  rw [br_decide]
  refine ⟨fun hn => ⟨hv p, rowKey s.up1 hp, (rbit_ok hp n).mono fun v h11 ⟨hv2, e11⟩ => ⟨e11, _, hv2, ?_, s.ext.trans e11⟩⟩, fun hn => ⟨by rw [decide_eq_false]; rw [less_iff hsh]; omega, s.ext⟩⟩
  rw [bitI_nat _ (by omega)]
  congr 1
  rw [Bool.eq_iff_iff, decide_eq_true_iff, less_iff hsh]
  cases hb : bit p n <;> simp <;> omega
end Go.Proofs.Ytnaeicepapokjaa
