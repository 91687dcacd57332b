/- Layer 18: the reference's bare parts. -/
import Derived.Test.YthlmiijlhiiccaaGreatdd
import Derived.Test.YthlmiijlhiiccaaGreatmh
import Derived.Test.YthlmiijlhiiccaaGreatmr
set_option linter.unusedVariables false
set_option linter.unusedSimpArgs false
set_option maxRecDepth 100000
namespace Go.Proofs.YthlmiijlhiiccaaGreat
open Go Go.Vc Go.Proofs Go.Vc.Keys
section
variable {h0 h : Heap} {F : List HP}
/-- A proof, bare: the steps stand where they stood. -/
theorem ended_ok {hb : Heap} {cs : List Value} {p : Prf} (hx : PrR hb cs p) : CallsH Tryz.prog n_ref18_Ended #[.agg cs.toArray] h fun v h' => ∃ cs' : List Value, v = .agg cs'.toArray ∧ cs'.length = 163 ∧ ones cs' ∧ PrR hb cs' (barePr p) ∧ Ext h h' := by
  refine C_ref18_Ended cs.toArray ?_
  unfold F_ref18_Ended
  have hlen := hx.len
  obtain ⟨a1, a2, a3, a4, a5⟩ := hx.lens
  have hI := hx.int
  obtain ⟨c, hc, hT⟩ := hx.steps
  obtain ⟨ps, ls, cap, _, rfl, _⟩ := id hT
  refine (St.start h).newBlk fun b0 h1 _ st _ => st.newBlk fun b2' h3 _ st _ => ?_
  have st : St h h3 [pts b2' 0 false (prC (.slice none 0 0) 0 zeros zeros zeroPf zeros zeros), pts b0 0 false cs] := st
  simp only [add_mk, Nat.zero_add]
  refine ⟨_, _, _, st.up1.cell0 (i := 0) hc, _, st.up1.cell0 (i := 1) hx.en, ?_⟩
  refine st.newBlk fun b8 h9 _ st _ => ?_
  refine st.storeAll rfl rfl (one_list (prC_ones (c := .slice ps ls cap) (en := p.en) (k := zeros) (v := zeros) (p := zeroPf) (x := zeros) (y := zeros) rfl)) fun h10 st => ?_
  have st : St h h10 [pts b8 0 false (prC (.slice ps ls cap) p.en zeros zeros zeroPf zeros zeros), pts b2' 0 false (prC (.slice none 0 0) 0 zeros zeros zeroPf zeros zeros), pts b0 0 false cs] := st
  have fin : ∀ {h' : Heap} {k v x y : Bytes} {q : Pf}, k.length = 32 → v.length = 32 → PfOk q → x.length = 32 → y.length = 32 → (⟨p.steps, p.en, k, v, q, x, y⟩ : Prf) = barePr p →
      St h h' [pts b8 0 false (prC (.slice ps ls cap) p.en k v q x y), pts b2' 0 false (prC (.slice none 0 0) 0 zeros zeros zeroPf zeros zeros), pts b0 0 false cs] →
      ∃ cs17 : Array Value, row h' (Addr.mk b8 0 none) 163 = some cs17 ∧ storeP (some 163) h' (Addr.mk b2' 0 none) (.agg cs17) fun h18 => ∃ cs19 : Array Value, row h18 (Addr.mk b2' 0 none) 163 = some cs19 ∧
        ∃ cs' : List Value, Value.agg cs19 = .agg cs'.toArray ∧ cs'.length = 163 ∧ ones cs' ∧ PrR hb cs' (barePr p) ∧ Ext h h18 := by
    intro h' k v x y q hk hv hq hx hy he st
    have hl := prC_len (c := .slice ps ls cap) (en := p.en) hk hv hq hx hy
    have ho := prC_ones (c := .slice ps ls cap) (en := p.en) (k := k) (v := v) (p := q) (x := x) (y := y) rfl
    refine ⟨_, st.row0 hl, ret18 st.up1 rfl hl ho fun h27 st => ⟨_, rfl, hl, ho, ?_, st.ext⟩⟩
    rw [← he]
    exact prR_mk hk hv hq hx hy hI hT
  -- the second kind of end
  have two : ∀ {h' : Heap} {K : Heap → Prop}, p.en = 2 → St h h' [pts b8 0 false (prC (.slice ps ls cap) p.en zeros zeros zeroPf zeros zeros), pts b2' 0 false (prC (.slice none 0 0) 0 zeros zeros zeroPf zeros zeros), pts b0 0 false cs] →
      (∀ h', St h h' [pts b8 0 false (prC (.slice ps ls cap) p.en zeros zeros p.p p.left p.right), pts b2' 0 false (prC (.slice none 0 0) 0 zeros zeros zeroPf zeros zeros), pts b0 0 false cs] → K h') →
      ∃ cs30 : Array Value, row h' (Addr.mk b0 66 none) 33 = some cs30 ∧ storeP (some 33) h' (Addr.mk b8 66 none) (.agg cs30) fun h31 => ∃ cs32 : Array Value, row h31 (Addr.mk b0 99 none) 32 = some cs32 ∧ storeP (some 32) h31 (Addr.mk b8 99 none) (.agg cs32) fun h33 =>
        ∃ cs34 : Array Value, row h33 (Addr.mk b0 131 none) 32 = some cs34 ∧ storeP (some 32) h33 (Addr.mk b8 131 none) (.agg cs34) K := by
    intro h' K _ st hK
    refine ⟨_, st.up2.rowAt (i := 66) (n := 33) (by omega), ?_⟩
    rw [hx.p]
    refine mid (i := 66) (A := [.slice ps ls cap, .int .i64 p.en] ++ (bcs zeros ++ bcs zeros)) (B := pfC zeroPf) (C := bcs zeros ++ bcs zeros) (by simpa only [prC, List.append_assoc, List.cons_append, List.nil_append] using st) rfl rfl (pfC_len a3) (ones_pfC _) fun h34 st => ?_
    simp only [List.append_assoc, List.cons_append, List.nil_append] at st
    refine ⟨_, st.up2.rowAt (i := 99) (n := 32) (by omega), ?_⟩
    rw [hx.left]
    refine mid (i := 99) (A := [.slice ps ls cap, .int .i64 p.en] ++ (bcs zeros ++ (bcs zeros ++ pfC p.p))) (B := bcs zeros) (C := bcs zeros) (by simpa only [List.append_assoc, List.cons_append, List.nil_append] using st) (by simp [bcs_length, pfC_len a3]; rfl) rfl (by rw [bcs_length, a4]) (one_bcs _) fun h38 st => ?_
    simp only [List.append_assoc, List.cons_append, List.nil_append] at st
    refine ⟨_, st.up2.rowAt (i := 131) (n := 32) (by omega), ?_⟩
    rw [hx.right]
    refine mid (i := 131) (A := [.slice ps ls cap, .int .i64 p.en] ++ (bcs zeros ++ (bcs zeros ++ (pfC p.p ++ bcs p.left)))) (B := bcs zeros) (C := []) (by simpa only [List.append_assoc, List.cons_append, List.nil_append, List.append_nil] using st) (by simp [bcs_length, pfC_len a3, a4]; rfl) rfl (by rw [bcs_length, a5]) (one_bcs _) fun h42 st => ?_
    simp only [List.append_assoc, List.cons_append, List.nil_append, List.append_nil] at st
    exact hK _ st
  refine ⟨_, st.up2.cell0 (i := 1) hx.en, ?_⟩
  rw [br_beq]
  refine ⟨fun e1 => ?_, fun e1 => ⟨_, st.up2.cell0 (i := 1) hx.en, ?_⟩⟩
  · refine ⟨_, st.up2.rowAt (i := 2) (n := 32) (by omega), ?_⟩
    rw [hx.key]
    refine mid (i := 2) (A := [.slice ps ls cap, .int .i64 p.en]) (B := bcs zeros) (C := bcs zeros ++ (pfC zeroPf ++ (bcs zeros ++ bcs zeros))) st rfl rfl (by rw [bcs_length, a1]) (one_bcs _) fun h23 st => ?_
    refine ⟨_, st.up2.rowAt (i := 34) (n := 32) (by omega), ?_⟩
    rw [hx.value]
    refine mid (i := 34) (A := [.slice ps ls cap, .int .i64 p.en] ++ bcs p.key) (B := bcs zeros) (C := pfC zeroPf ++ (bcs zeros ++ bcs zeros)) st (by simp [bcs_length, a1]) rfl (by rw [bcs_length, a2]) (one_bcs _) fun h27 st => ?_
    simp only [List.append_assoc, List.cons_append, List.nil_append] at st
    refine ⟨_, st.up2.cell0 (i := 1) hx.en, ?_⟩
    rw [br_beq]
    refine ⟨fun e2 => by omega, fun e2 => ?_⟩
    exact fin a1 a2 pf0_ok rfl rfl (by unfold barePr; rw [if_pos e1, e1]; rfl) st
  · rw [br_beq]
    refine ⟨fun e2 => two e2 st fun h' st => ?_, fun e2 => ?_⟩
    · exact fin rfl rfl a3 a4 a5 (by unfold barePr; rw [if_neg e1, if_pos e2, e2]; rfl) st
    · exact fin rfl rfl pf0_ok rfl rfl (by unfold barePr; rw [if_neg e1, if_neg e2]; rfl) st
end
end Go.Proofs.YthlmiijlhiiccaaGreat
