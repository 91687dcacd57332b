/- Layer 1: the laws on a spoiled writer, and on none. -/
import Derived.Test.Ytlalhdkehcldkaa1d
set_option linter.unusedVariables false
set_option maxRecDepth 100000
namespace Go.Proofs.Ytlalhdkehcldkaa
open Go Go.Vc Go.Proofs

/-- A loop that puts all fields of a list. -/
theorem put_loop {h0 h : Heap} {b : Nat} {bs : List UInt8} {sp : Bool} {p : Option Addr} {l : Nat} {fs : List Fld} (hf : Flds h0 p l fs) (hfew : FewP fs 60) (hs : St h0 h [W b bs sp]) (hbs : bs.length ≤ 100000000)
    {E : Heap → Prop} (hE : ∀ h' bs', bs'.length ≤ bs.length + 9002 * 60 → (∃ sp', (sp = true → sp' = true) ∧ St h0 h' [W b bs' sp']) → E h') :
    ∃ (I : Int → Heap → Prop) (μ : Int → Heap → Nat), I 0 h ∧ ∀ n h', I n h' → br (decide (n < (l : Int)))
      (0 ≤ n ∧ n < (l : Int) ∧ deref p fun a => ∃ cs : Array Value, row h' (Addr.add a (Int.toNat n * 3)) 3 = some cs ∧
        CallsH Try.prog n_law01_put #[Value.pointer (some (Addr.mk b 0 none)), Value.agg cs] h' fun v h'' => v = Value.tuple #[] ∧ I (IntKind.wrap .i64 (n + 1)) h'' ∧ μ (IntKind.wrap .i64 (n + 1)) h'' < μ n h') (E h') := by
  have hl := hf.len
  have hl60 := hfew.1
  refine ⟨fun i h' => ∃ k : Nat, i = k ∧ k ≤ l ∧ ∃ bs' sp', bs'.length ≤ bs.length + 9002 * k ∧ (sp = true → sp' = true) ∧ St h0 h' [W b bs' sp'], fun i _ => l - i.toNat, ⟨0, rfl, by omega, bs, sp, by omega, id, hs⟩, ?_⟩
  intro i h23 hI
  obtain ⟨k, hi, hk, bs', sp', hlen, hsp, s⟩ := hI
  subst hi
  rw [br_decide]
  refine ⟨fun hlt => ⟨by omega, hlt, ?_⟩, fun hge => hE h23 bs' (by omega) ⟨sp', hsp, s⟩⟩
  obtain ⟨b0, o, q, l', c', h2, e, _, _, g2, _, _, hb0, hx, _⟩ := hf.get (i := k) (by omega)
  obtain ⟨_, _, _, _, _, _, e', _, _, g2', _, _, _, _, _, _, g3'⟩ := (hf.ext s.ext).get (i := k) (by omega)
  subst e
  cases e'
  have hsame := s.ext.cell g2
  rw [hsame] at g2'
  cases g2'
  simp only [deref_some, Int.toNat_natCast, add_mk]
  have hfb := hfew.2 _ (List.getElem_mem h2)
  refine ⟨_, g3', (put_ok s hb0 hx hfb (by omega)).mono fun v h27 hp => ⟨hp.1, ?_⟩⟩
  rw [wrap_i64 (by omega) (by omega)]
  have hpl := putS_len (bs := bs') (sp := sp') hfb
  refine ⟨⟨k + 1, by omega, by omega, _, _, ?_, ?_, hp.upd⟩, by show l - ((k : Int) + 1).toNat < l - (k : Int).toNat; omega⟩
  · omega
  · intro e
    have := hsp e
    subst this
    rfl
theorem spoil_put {h0 h' : Heap} {F : List HP} {b : Nat} {bs : List UInt8} {sp : Bool} {v : Value} (hp : Put h0 F b bs sp none v h') : St h0 h' (W b bs true :: F) := by
  have := hp.2
  cases sp <;> exact this
theorem wireSpoiled_ok {h : Heap} {p q : Option Addr} {l c m d : Nat} {fs gs : List Fld} (hf : Flds h p l fs) (hg : Flds h q m gs) (x : Nat) (hx : x < 4294967296) :
    CallsH Try.prog n_law01_WireSpoiled #[.slice p l c, .slice q m d, .int .u32 x] h fun v h' => v = .bool true ∧ Ext h h' := by
  refine C_law01_WireSpoiled p l c q m d x ?_
  unfold F_law01_WireSpoiled
  refine ⟨fun _ h' => FewP fs 60 ∧ FewP gs 60 ∧ St h h' [], ?_, ?_⟩
  · refine awake_br (St.start h) fun h1 s => ?_
    refine (few_ok (hf.ext s.ext) 60 (by omega)).mono fun v h7 ⟨⟨t, hv, ht⟩, hh⟩ => ?_
    subst hh
    refine ⟨Ext.refl _, t, hv, ?_⟩
    cases t
    · exact br_yes rfl (awake_end s)
    have hfew := ht rfl
    refine br_no rfl ((few_ok (hg.ext s.ext) 60 (by omega)).mono fun v h13 ⟨⟨t, hv, ht⟩, hh⟩ => ?_)
    subst hh
    refine ⟨Ext.refl _, t, hv, ?_⟩
    cases t
    · exact br_yes rfl (awake_end s)
    exact br_no rfl ⟨hfew, ht rfl, s⟩
  intro _ h20 ⟨hfew, gfew, s⟩
  refine s.newBlk fun b h22 _ s _ => put_loop hf hfew (W.mk s) (by simp) fun h26 bs hbs hs => ?_
  simp only [List.length_nil] at hbs
  obtain ⟨sp, _, s⟩ := hs
  have em : Int.tmod (x : Int) 4 = ((x % 4 : Nat) : Int) := rfl
  have ed : IntKind.wrap .i64 (IntKind.wrap .u32 (Int.tdiv (x : Int) 4)) = ((x / 4 : Nat) : Int) := by
    have : Int.tdiv (x : Int) 4 = ((x / 4 : Nat) : Int) := rfl
    rw [this, wrap_u32, wrap_i64 (by omega) (by omega)]; omega
  refine ⟨fun _ h' => ∃ bs', bs'.length ≤ 600000 ∧ St h h' [W b bs' true], ⟨by omega, ?_⟩, ?_⟩
  · rw [em, ed]
    rw [br_beq]
    refine ⟨fun e0 => ⟨by omega, ?_⟩, fun e0 => ?_⟩
    · refine (u8_put s _ (by omega)).mono fun v h33 hp => ⟨hp.1, bs, by omega, ?_⟩
      rw [wrap_i64 (by omega) (by omega), if_neg (by omega)] at hp
      exact spoil_put hp
    rw [br_beq]
    refine ⟨fun e1 => ⟨by omega, ?_⟩, fun e1 => ?_⟩
    · refine (u16_put s _ (by omega)).mono fun v h33 hp => ⟨hp.1, bs, by omega, ?_⟩
      rw [wrap_i64 (by omega) (by omega), if_neg (by omega)] at hp
      exact spoil_put hp
    rw [br_beq]
    refine ⟨fun e2 => ⟨by omega, ?_⟩, fun e2 => ?_⟩
    · refine (count_put s _ (by omega)).mono fun v h33 hp => ⟨hp.1, bs, by omega, ?_⟩
      rw [wrap_i64 (by omega) (by omega), if_neg (by omega)] at hp
      exact spoil_put hp
    rw [br_beq]
    refine ⟨fun e3 => ?_, fun e3 => by omega⟩
    refine St.make (z := .int .u8 0) (l := 8193) (c := 8193) s rfl (by omega) (Nat.le_refl _) (by unfold maxLen; omega) (by omega) fun b38 h39 s => ?_
    have e0 : List.replicate (8193 * 1) (Value.int .u8 0) = bcs (List.replicate 8193 0) := by rw [bcs_replicate]; rfl
    rw [e0] at s
    refine (string_put s.ro.up1 (by simp; omega)).mono fun v h41 hp => ⟨hp.1, bs, by omega, ?_⟩
    rw [if_neg (by simp)] at hp
    exact (spoil_put hp).up1.drop
  intro _ h43 ⟨bs', hbs', s⟩
  refine put_loop hg gfew s (by omega) fun h47 bs2 hbs2 hs => ?_
  obtain ⟨sp2, hsp2, s⟩ := hs
  have := hsp2 rfl
  subst this
  refine (out_ok s.at (by omega)).mono fun v h53 ⟨p54, l55, c56, hv, n⟩ => ⟨n.ext, p54, l55, c56, _, hv, br_yes rfl ⟨?_, s.ext.trans n.ext⟩⟩
  have hb := (bs_own (c := c56) (bs := if true then [] else bs2) n.st.at).1
  simp only [if_true, List.length_nil] at hb
  subst hb
  rfl

/- ### No writer, no reader -/
section
variable {h : Heap}
theorem nnumber (x n : Int) : CallsH Try.prog n_wire_Writer_number #[.pointer none, .int .u64 x, .int .i64 n] h fun v h' => v = unit ∧ h' = h := C_wire_Writer_number none x n (by unfold F_wire_Writer_number; exact ⟨by trivial, by trivial⟩)
theorem nwithin (x n : Int) : CallsH Try.prog n_wire_Writer_within #[.pointer none, .int .i64 x, .int .i64 n] h fun v h' => v = .bool false ∧ h' = h := C_wire_Writer_within none x n (by unfold F_wire_Writer_within; exact ⟨by trivial, by trivial⟩)
theorem nplain (p : Option Addr) (l c : Nat) : CallsH Try.prog n_wire_Writer_Plain #[.pointer none, .slice p l c] h fun v h' => v = unit ∧ h' = h := C_wire_Writer_Plain none p l c (by unfold F_wire_Writer_Plain; exact ⟨by trivial, by trivial⟩)
theorem nbounded {x m : Int} {Y R : Heap → Prop} (hR : R h) : CallsH Try.prog n_wire_Writer_within #[.pointer none, .int .i64 x, .int .i64 m] h fun v0 h1 => ∃ t2, v0 = .bool t2 ∧ br t2 (Y h1) (R h1) :=
  (nwithin x m).mono fun v h1 ⟨hv, hh⟩ => by subst hh; exact ⟨_, hv, br_no rfl hR⟩
theorem nput (f : Fld) (p : Option Addr) (l c : Nat) : CallsH Try.prog n_law01_put #[.pointer none, .agg #[.int .i64 f.k, .int .u64 (f.x : Int), .slice p l c]] h fun v h' => v = unit ∧ Ext h h' := by
  refine C_law01_put _ _ ?_
  unfold F_law01_put
  refine (St.start h).newBlk fun b0 h1 _ s e => ?_
  simp only [add_mk, Nat.zero_add, Nat.add_zero]
  have c0 := s.cell0 (i := 0) (v := .int .i64 f.k) rfl
  have c1 := s.cell0 (i := 1) (v := .int .u64 (f.x : Int)) rfl
  have c2 := s.cell0 (i := 2) (v := .slice p l c) rfl
  refine ⟨f.k, c0, ?_⟩
  simp only [br_beq]
  have fin : ∀ {v : Value} {h' : Heap}, v = unit ∧ h' = h1 → v = unit ∧ (True ∧ Ext h h') := fun ⟨hv, hh⟩ => by subst hh; exact ⟨hv, trivial, e⟩
  refine ⟨fun e1 => ⟨f.x, c1, ?_⟩, fun e1 => ⟨fun e2 => ⟨f.x, c1, ?_⟩, fun e2 => ⟨fun e3 => ⟨f.x, c1, ?_⟩, fun e3 => ⟨fun e4 => ⟨f.x, c1, ?_⟩, fun e4 => ⟨fun e5 => ⟨f.x, c1, by omega, ?_⟩, fun e5 => ⟨fun e6 => ⟨p, l, c, c2, ?_⟩, fun e6 => ⟨fun e7 => ⟨p, l, c, c2, ?_⟩, fun e7 => ⟨fun e8 => ⟨f.x, c1, ?_⟩, fun e8 => ⟨by trivial, e⟩⟩⟩⟩⟩⟩⟩⟩⟩
  · exact C_wire_Writer_U8 _ _ (by unfold F_wire_Writer_U8; exact nbounded ⟨by trivial, by trivial, e⟩)
  · exact C_wire_Writer_U16 _ _ (by unfold F_wire_Writer_U16; exact nbounded ⟨by trivial, by trivial, e⟩)
  · exact C_wire_Writer_U32 _ _ (by unfold F_wire_Writer_U32; exact (nnumber _ _).mono fun v h' hh => ⟨hh.1, by trivial, (fin hh).2⟩)
  · exact C_wire_Writer_U64 _ _ (by unfold F_wire_Writer_U64; exact (nnumber _ _).mono fun v h' hh => ⟨hh.1, by trivial, (fin hh).2⟩)
  · refine C_wire_Writer_Flag _ _ ?_
    unfold F_wire_Writer_Flag
    generalize (Int.tmod (f.x : Int) 2 == 1) = t
    cases t
    · exact br_no rfl ((nnumber _ _).mono fun v h' hh => ⟨hh.1, by trivial, (fin hh).2⟩)
    · exact br_yes rfl ((nnumber _ _).mono fun v h' hh => ⟨hh.1, by trivial, (fin hh).2⟩)
  · exact (nplain p l c).mono fun v h' hh => fin hh
  · exact C_wire_Writer_String _ _ _ _ (by unfold F_wire_Writer_String; exact nbounded ⟨by trivial, by trivial, e⟩)
  · exact C_wire_Writer_Count _ _ (by unfold F_wire_Writer_Count; exact nbounded ⟨by trivial, by trivial, e⟩)
theorem npeek (n : Int) : CallsH Try.prog n_wire_Reader_peek #[.pointer none, .int .i64 n] h fun v h' => v = .tuple #[.int .u64 0, .bool false] ∧ h' = h := C_wire_Reader_peek none n (by unfold F_wire_Reader_peek; exact ⟨by trivial, by trivial⟩)
theorem ntakes (n : Int) : CallsH Try.prog n_wire_Reader_takes #[.pointer none, .int .i64 n] h fun v h' => v = .slice none 0 0 ∧ h' = h := C_wire_Reader_takes none n (by unfold F_wire_Reader_takes; exact ⟨by trivial, by trivial⟩)
theorem nspoil : CallsH Try.prog n_wire_Reader_spoil #[.pointer none] h fun v h' => v = unit ∧ h' = h := C_wire_Reader_spoil none (by unfold F_wire_Reader_spoil; exact ⟨by trivial, by trivial⟩)
theorem nrnumber (n : Int) : CallsH Try.prog n_wire_Reader_number #[.pointer none, .int .i64 n] h fun v h' => v = .int .u64 0 ∧ h' = h := by
  refine C_wire_Reader_number none n ?_
  unfold F_wire_Reader_number
  refine (npeek n).mono fun v h1 ⟨hv, hh⟩ => ?_
  subst hh
  refine ⟨Ext.refl _, _, _, hv, (ntakes n).mono fun v h5 ⟨hv, hh⟩ => ⟨none, 0, 0, hv, br_yes rfl ⟨by trivial, hh⟩⟩⟩
theorem nleft : CallsH Try.prog n_wire_Reader_Left #[.pointer none] h fun v h' => v = .int .i64 0 ∧ h' = h := C_wire_Reader_Left none (by unfold F_wire_Reader_Left; exact ⟨by trivial, by trivial⟩)
theorem nfails : CallsH Try.prog n_wire_Reader_Fails #[.pointer none] h fun v h' => v = .bool true ∧ h' = h := C_wire_Reader_Fails none (by unfold F_wire_Reader_Fails; exact ⟨by trivial, by trivial⟩)
theorem ndone : CallsH Try.prog n_wire_Reader_Done #[.pointer none] h fun v h' => v = .bool false ∧ h' = h := by
  refine C_wire_Reader_Done none ?_
  unfold F_wire_Reader_Done
  refine nfails.mono fun v h1 ⟨hv, hh⟩ => ?_
  subst hh
  exact ⟨Ext.refl _, _, hv, br_no rfl ⟨by trivial, by trivial⟩⟩
theorem nout : CallsH Try.prog n_wire_Writer_Out #[.pointer none] h fun v h' => v = .tuple #[.slice none 0 0, .int .i64 1] ∧ h' = h := C_wire_Writer_Out none (by unfold F_wire_Writer_Out; exact ⟨by trivial, by trivial⟩)
/-- Nothing is taken from no reader. -/
theorem ntake (k most : Int) : CallsH Try.prog n_law01_take #[.pointer none, .int .i64 k, .int .u64 most] h fun v h' => v = .agg #[.int .i64 k, .int .u64 0, .slice none 0 0] ∧ Ext h h' := by
  refine C_law01_take none k most ?_
  unfold F_law01_take
  refine (St.start h).newBlk fun b0 h1 _ s e => s.newBlk fun b2 h3 _ s e => s.storeAll rfl rfl (by intro v hv; simp at hv; rcases hv with rfl | rfl | rfl <;> rfl) fun h4 s => ?_
  have fin : ∀ {h9 : Heap}, St h h9 [pts b2 0 false [.int .i64 k, .int .u64 0, .slice none 0 0], pts b0 0 false [.int .i64 0, .int .u64 0, .slice none 0 0]] →
      ∃ cs : Array Value, row h9 (Addr.mk b2 0 none) 3 = some cs ∧ storeP (some 3) h9 (Addr.mk b0 0 none) (.agg cs) fun h10 => ∃ cs' : Array Value, row h10 (Addr.mk b0 0 none) 3 = some cs' ∧ (Value.agg cs' = .agg #[.int .i64 k, .int .u64 0, .slice none 0 0] ∧ Ext h h10) :=
    fun s => ⟨_, s.row0 rfl, s.up1.ret (R := fun cs h10 => Value.agg cs = .agg #[.int .i64 k, .int .u64 0, .slice none 0 0] ∧ Ext h h10) rfl rfl (by intro v hv; simp at hv; rcases hv with rfl | rfl | rfl <;> rfl) fun h' e => ⟨rfl, e⟩⟩
  have num : ∀ {h9 : Heap} {z : Int}, St h h9 [pts b2 0 false [.int .i64 k, .int .u64 0, .slice none 0 0], pts b0 0 false [.int .i64 0, .int .u64 0, .slice none 0 0]] → z = 0 →
      storeP none h9 (Addr.mk b2 1 none) (.int .u64 z) fun h8 => ∃ cs : Array Value, row h8 (Addr.mk b2 0 none) 3 = some cs ∧ storeP (some 3) h8 (Addr.mk b0 0 none) (.agg cs) fun h10 => ∃ cs' : Array Value, row h10 (Addr.mk b0 0 none) 3 = some cs' ∧ (Value.agg cs' = .agg #[.int .i64 k, .int .u64 0, .slice none 0 0] ∧ Ext h h10) :=
    fun s hz => s.store0 (by simp) rfl fun h8 s => by subst hz; exact fin s
  have sl : ∀ {h9 : Heap}, St h h9 [pts b2 0 false [.int .i64 k, .int .u64 0, .slice none 0 0], pts b0 0 false [.int .i64 0, .int .u64 0, .slice none 0 0]] →
      storeP none h9 (Addr.mk b2 2 none) (.slice none 0 0) fun h8 => ∃ cs : Array Value, row h8 (Addr.mk b2 0 none) 3 = some cs ∧ storeP (some 3) h8 (Addr.mk b0 0 none) (.agg cs) fun h10 => ∃ cs' : Array Value, row h10 (Addr.mk b0 0 none) 3 = some cs' ∧ (Value.agg cs' = .agg #[.int .i64 k, .int .u64 0, .slice none 0 0] ∧ Ext h h10) :=
    fun s => s.store0 (by simp) rfl fun h8 s => fin s
  simp only [br_beq]
  refine ⟨fun e1 => ?_, fun e1 => ⟨fun e2 => ?_, fun e2 => ⟨fun e3 => ?_, fun e3 => ⟨fun e4 => ?_, fun e4 => ⟨fun e5 => ?_, fun e5 => ⟨fun e6 => ?_, fun e6 => ⟨fun e7 => ?_, fun e7 => ⟨fun e8 => ?_, fun e8 => fin s⟩⟩⟩⟩⟩⟩⟩⟩
  · exact C_wire_Reader_U8 _ (by unfold F_wire_Reader_U8; exact (nrnumber 1).mono fun v h' ⟨hv, hh⟩ => by subst hh; exact ⟨_, hv, _, rfl, num s rfl⟩)
  · exact C_wire_Reader_U16 _ (by unfold F_wire_Reader_U16; exact (nrnumber 2).mono fun v h' ⟨hv, hh⟩ => by subst hh; exact ⟨_, hv, _, rfl, num s rfl⟩)
  · exact C_wire_Reader_U32 _ (by unfold F_wire_Reader_U32; exact (nrnumber 4).mono fun v h' ⟨hv, hh⟩ => by subst hh; exact ⟨_, hv, _, rfl, num s rfl⟩)
  · exact C_wire_Reader_U64 _ (by unfold F_wire_Reader_U64; exact (nrnumber 8).mono fun v h' ⟨hv, hh⟩ => by subst hh; exact ⟨_, hv, _, rfl, num s rfl⟩)
  · refine C_wire_Reader_Flag _ ?_
    unfold F_wire_Reader_Flag
    refine (npeek 1).mono fun v h' ⟨hv, hh⟩ => ?_
    subst hh
    refine ⟨Ext.refl _, _, _, hv, br_yes rfl (nspoil.mono fun v h5 ⟨hv, hh⟩ => ?_)⟩
    subst hh
    refine ⟨hv, (nrnumber 1).mono fun v h7 ⟨hv, hh⟩ => ?_⟩
    subst hh
    exact ⟨_, hv, _, rfl, br_no rfl (fin s)⟩
  · refine C_wire_Reader_Plain _ _ ?_
    unfold F_wire_Reader_Plain
    refine (ntakes _).mono fun v h' ⟨hv, hh⟩ => ?_
    subst hh
    exact ⟨none, 0, 0, hv, none, 0, 0, rfl, sl s⟩
  · refine C_wire_Reader_String _ _ ?_
    unfold F_wire_Reader_String
    refine (npeek 2).mono fun v h' ⟨hv, hh⟩ => ?_
    subst hh
    refine ⟨Ext.refl _, _, _, hv, br_yes rfl (nspoil.mono fun v h5 ⟨hv, hh⟩ => ?_)⟩
    subst hh
    exact ⟨hv, none, 0, 0, rfl, sl s⟩
  · refine C_wire_Reader_Count _ _ ?_
    unfold F_wire_Reader_Count
    refine (npeek 2).mono fun v h' ⟨hv, hh⟩ => ?_
    subst hh
    refine ⟨Ext.refl _, _, _, hv, br_yes rfl (nspoil.mono fun v h5 ⟨hv, hh⟩ => ?_)⟩
    subst hh
    exact ⟨hv, _, rfl, num s rfl⟩
end
theorem wireNil_ok {h : Heap} {f : Fld} {p : Option Addr} {l c : Nat} : CallsH Try.prog n_law01_WireNil #[.agg #[.int .i64 f.k, .int .u64 (f.x : Int), .slice p l c]] h fun v h' => v = .bool true ∧ Ext h h' := by
  refine C_law01_WireNil _ ?_
  unfold F_law01_WireNil
  refine (St.start h).newBlk fun b h1 _ s e => awake_br s fun h3 s => ?_
  refine ⟨p, l, c, by simp only [add_mk, Nat.zero_add]; exact s.cell0 rfl, ?_⟩
  rw [br_decide]
  refine ⟨fun _ => awake_end s, fun _ => ⟨_, s.row0 rfl, (nput f p l c).mono fun v h16 ⟨hv, e16⟩ => ⟨hv, ?_⟩⟩⟩
  have s := s.keep e16
  refine ⟨f.k, by simp only [add_mk, Nat.zero_add]; exact s.cell0 rfl, (f.x : Int), by simp only [add_mk, Nat.zero_add]; exact s.cell0 rfl, (ntake _ _).mono fun v h20 ⟨hv, e20⟩ => ⟨_, rfl, hv, ?_⟩⟩
  refine (s.keep e20).newBlk fun b22 h23 _ s _ => s.storeAll rfl rfl (by intro v hv; simp at hv; rcases hv with rfl | rfl | rfl <;> rfl) fun h24 s => nout.mono fun v h26 ⟨hv, hh⟩ => ?_
  subst hh
  refine ⟨Ext.refl _, none, 0, 0, 1, hv, br_yes rfl (br_yes rfl ⟨0, by simp only [add_mk, Nat.zero_add]; exact s.cell0 rfl, br_yes rfl ⟨none, 0, 0, by simp only [add_mk, Nat.zero_add]; exact s.cell0 rfl, br_yes rfl (nleft.mono fun v h36 ⟨hv, hh⟩ => ?_)⟩⟩)⟩
  subst hh
  refine ⟨Ext.refl _, 0, hv, br_yes rfl (nfails.mono fun v h39 ⟨hv, hh⟩ => ?_)⟩
  subst hh
  refine ⟨Ext.refl _, true, hv, br_yes rfl (ndone.mono fun v h42 ⟨hv, hh⟩ => ?_)⟩
  subst hh
  exact ⟨Ext.refl _, false, hv, rfl, s.ext⟩
end Go.Proofs.Ytlalhdkehcldkaa
