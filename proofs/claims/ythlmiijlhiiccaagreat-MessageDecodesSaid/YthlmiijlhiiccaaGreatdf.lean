/- Layer 18: the parts of a message's block; the decoder's fields. Printed by genparts.py. -/
import Derived.Test.YthlmiijlhiiccaaGreatde
import Derived.Test.YthlmiijlhiiccaaGreatme
set_option linter.unusedVariables false
set_option linter.unusedSimpArgs false
set_option maxRecDepth 100000
namespace Go.Proofs.YthlmiijlhiiccaaGreat
open Go Go.Vc Go.Proofs Go.Vc.Keys
def off18 : Nat → Nat
  | 0 => 0
  | 1 => 1
  | 2 => 2
  | 3 => 3
  | 4 => 4
  | 5 => 5
  | 6 => 6
  | 7 => 7
  | 8 => 8
  | 9 => 9
  | 10 => 76
  | 11 => 78
  | 12 => 80
  | 13 => 112
  | 14 => 275
  | 15 => 276
  | 16 => 277
  | 17 => 278
  | _ => 279
def siz18 : Nat → Nat
  | 0 => 1
  | 1 => 1
  | 2 => 1
  | 3 => 1
  | 4 => 1
  | 5 => 1
  | 6 => 1
  | 7 => 1
  | 8 => 1
  | 9 => 67
  | 10 => 2
  | 11 => 2
  | 12 => 32
  | 13 => 163
  | 14 => 1
  | 15 => 1
  | 16 => 1
  | 17 => 1
  | _ => 0
def Part (h : Heap) (c : List Value) (m : Ms) : Nat → Prop
  | 0 => c = [.int .i64 m.kind] ∧ I64 m.kind
  | 1 => c = [.int .i64 m.src] ∧ I64 m.src
  | 2 => c = [.int .i64 m.dst] ∧ I64 m.dst
  | 3 => c = [.int .i64 m.seq] ∧ I64 m.seq
  | 4 => c = [.int .i64 m.epoch] ∧ I64 m.epoch
  | 5 => c = [.int .i64 m.known] ∧ I64 m.known
  | 6 => c = [.int .i64 m.err] ∧ I64 m.err
  | 7 => ∃ v, c = [v] ∧ TxtR h v m.label
  | 8 => ∃ v, c = [v] ∧ TxtR h v m.value
  | 9 => SgR h c m.sg
  | 10 => TrR h c m.growth
  | 11 => TrR h c m.place
  | 12 => c = bcs m.tree ∧ m.tree.length = 32
  | 13 => PrR h c m.proof
  | 14 => ∃ v, c = [v] ∧ LsR 67 VrR h v m.chain
  | 15 => ∃ v, c = [v] ∧ LsR 162 RwR h v m.rows
  | 16 => ∃ v, c = [v] ∧ LsR 68 NwR h v m.news
  | 17 => ∃ v, c = [v] ∧ LsR 32 HashR h v m.trees
  | _ => True
def part (cs : List Value) (k : Nat) : List Value := (cs.drop (off18 k)).take (siz18 k)
theorem one_at {cs : List Value} {i : Nat} {v : Value} (e : cs[i]? = some v) : (cs.drop i).take 1 = [v] := by
  have hi : i < cs.length := by
    rcases Nat.lt_or_ge i cs.length with h | h
    · exact h
    · rw [List.getElem?_eq_none h] at e; cases e
  rw [List.drop_eq_getElem_cons hi]
  rw [List.getElem?_eq_getElem hi] at e
  cases e
  rfl
theorem at_one {cs : List Value} {i : Nat} {v : Value} (e : (cs.drop i).take 1 = [v]) : cs[i]? = some v := by
  have : ((cs.drop i).take 1)[0]? = some v := by rw [e]; rfl
  rw [List.getElem?_take] at this
  split at this
  · rw [List.getElem?_drop] at this; exact this
  · cases this

theorem parts_of {h : Heap} {cs : List Value} {m : Ms} (r : MsR h cs m) : cs.length = 279 ∧ ones cs ∧ ∀ k, k < 18 → Part h (part cs k) m k := by
  refine ⟨r.len, r.ones, fun k hk => ?_⟩
  obtain ⟨i0, i1, i2, i3, i4, i5, i6⟩ := r.ints
  rcases k with _ | _ | _ | _ | _ | _ | _ | _ | _ | _ | _ | _ | _ | _ | _ | _ | _ | _ | k
  · exact ⟨one_at r.kind, i0⟩
  · exact ⟨one_at r.src, i1⟩
  · exact ⟨one_at r.dst, i2⟩
  · exact ⟨one_at r.seq, i3⟩
  · exact ⟨one_at r.epoch, i4⟩
  · exact ⟨one_at r.known, i5⟩
  · exact ⟨one_at r.err, i6⟩
  · obtain ⟨v, h1, h2⟩ := r.label
    exact ⟨v, one_at h1, h2⟩
  · obtain ⟨v, h1, h2⟩ := r.value
    exact ⟨v, one_at h1, h2⟩
  · exact r.sg
  · exact r.growth
  · exact r.place
  · exact ⟨r.tree, r.treeLen⟩
  · exact r.proof
  · obtain ⟨v, h1, h2⟩ := r.chain
    exact ⟨v, one_at h1, h2⟩
  · obtain ⟨v, h1, h2⟩ := r.rows
    exact ⟨v, one_at h1, h2⟩
  · obtain ⟨v, h1, h2⟩ := r.news
    exact ⟨v, one_at h1, h2⟩
  · obtain ⟨v, h1, h2⟩ := r.trees
    exact ⟨v, one_at h1, h2⟩
  · omega
theorem of_parts {h : Heap} {cs : List Value} {m : Ms} (h1 : cs.length = 279) (h2 : ones cs) (hp : ∀ k, k < 18 → Part h (part cs k) m k) : MsR h cs m := by
  have p0 : Part h (part cs 0) m 0 := hp 0 (by omega)
  have p1 : Part h (part cs 1) m 1 := hp 1 (by omega)
  have p2 : Part h (part cs 2) m 2 := hp 2 (by omega)
  have p3 : Part h (part cs 3) m 3 := hp 3 (by omega)
  have p4 : Part h (part cs 4) m 4 := hp 4 (by omega)
  have p5 : Part h (part cs 5) m 5 := hp 5 (by omega)
  have p6 : Part h (part cs 6) m 6 := hp 6 (by omega)
  have p7 : Part h (part cs 7) m 7 := hp 7 (by omega)
  have p8 : Part h (part cs 8) m 8 := hp 8 (by omega)
  have p9 : Part h (part cs 9) m 9 := hp 9 (by omega)
  have p10 : Part h (part cs 10) m 10 := hp 10 (by omega)
  have p11 : Part h (part cs 11) m 11 := hp 11 (by omega)
  have p12 : Part h (part cs 12) m 12 := hp 12 (by omega)
  have p13 : Part h (part cs 13) m 13 := hp 13 (by omega)
  have p14 : Part h (part cs 14) m 14 := hp 14 (by omega)
  have p15 : Part h (part cs 15) m 15 := hp 15 (by omega)
  have p16 : Part h (part cs 16) m 16 := hp 16 (by omega)
  have p17 : Part h (part cs 17) m 17 := hp 17 (by omega)
  obtain ⟨v7, a7, b7⟩ := p7
  obtain ⟨v8, a8, b8⟩ := p8
  obtain ⟨v14, a14, b14⟩ := p14
  obtain ⟨v15, a15, b15⟩ := p15
  obtain ⟨v16, a16, b16⟩ := p16
  obtain ⟨v17, a17, b17⟩ := p17
  exact ⟨h1, at_one p0.1, at_one p1.1, at_one p2.1, at_one p3.1, at_one p4.1, at_one p5.1, at_one p6.1, ⟨v7, at_one a7, b7⟩, ⟨v8, at_one a8, b8⟩, p9, p10, p11, p12.1, p12.2, p13, ⟨v14, at_one a14, b14⟩, ⟨v15, at_one a15, b15⟩, ⟨v16, at_one a16, b16⟩, ⟨v17, at_one a17, b17⟩, ⟨p0.2, p1.2, p2.2, p3.2, p4.2, p5.2, p6.2⟩, h2⟩
theorem lay_get {vs l : List Value} {i t : Nat} (hi : i + l.length ≤ vs.length) : (lay vs i l)[t]? = if t < i then vs[t]? else if t < i + l.length then l[t - i]? else vs[t]? := by
  unfold lay
  have hlen : (vs.take i).length = i := by simp; omega
  split
  · rename_i h1
    rw [List.getElem?_append_left (by omega), List.getElem?_take, if_pos h1]
  · rename_i h1
    rw [List.getElem?_append_right (by omega), hlen]
    split
    · rename_i h2
      rw [List.getElem?_append_left (by omega)]
    · rename_i h2
      rw [List.getElem?_append_right (by omega), List.getElem?_drop]
      congr 1; omega
theorem lay_same {vs l : List Value} {i n : Nat} (hi : i + l.length ≤ vs.length) (hn : l.length = n) : ((lay vs i l).drop i).take n = l := by
  unfold lay
  rw [List.drop_left' (by simp; omega), List.take_left' hn]
theorem lay_else {vs l : List Value} {i j n : Nat} (hi : i + l.length ≤ vs.length) (hd : j + n ≤ i ∨ i + l.length ≤ j) : ((lay vs i l).drop j).take n = (vs.drop j).take n := by
  apply List.ext_getElem?
  intro t
  rw [List.getElem?_take, List.getElem?_take]
  split
  · rename_i ht
    rw [List.getElem?_drop, List.getElem?_drop, lay_get hi]
    rcases hd with hd | hd
    · rw [if_pos (by omega)]
    · rw [if_neg (by omega), if_neg (by omega)]
  · rfl
theorem parts_apart : ∀ k, k < 18 → ∀ j, j < 18 → j ≠ k → off18 j + siz18 j ≤ off18 k ∨ off18 k + siz18 k ≤ off18 j := by decide
theorem parts_in : ∀ k, k < 18 → off18 k + siz18 k ≤ 279 := by decide
theorem ones_lay {vs l : List Value} {i : Nat} (h1 : ones vs) (h2 : ones l) : ones (lay vs i l) := ones_app (fun v hv => h1 v (List.mem_of_mem_take hv)) (ones_app h2 fun v hv => h1 v (List.mem_of_mem_drop hv))
theorem msR_lay {h : Heap} {cs l : List Value} {m m' : Ms} {k : Nat} (hk : k < 18) (r : MsR h cs m) (hl : l.length = siz18 k) (ho : ones l) (hp : Part h l m' k) (keep : ∀ h c j, j ≠ k → Part h c m j → Part h c m' j) : MsR h (lay cs (off18 k) l) m' := by
  obtain ⟨h1, h2, h3⟩ := parts_of r
  have hin := parts_in k hk
  have hi : off18 k + l.length ≤ cs.length := by omega
  refine of_parts (by rw [lay_length hi, h1]) (ones_lay h2 ho) fun j hj => ?_
  by_cases hjk : j = k
  · subst hjk
    have : part (lay cs (off18 j) l) j = l := lay_same hi hl
    rw [this]; exact hp
  · have : part (lay cs (off18 k) l) j = part cs j := lay_else hi (by rw [hl]; exact parts_apart k hk j hj hjk)
    rw [this]; exact keep h _ j hjk (h3 j hj)
section
variable {h0 h : Heap} {G : List HP} {mb : Nat} {cs l : List Value} {m m' : Ms} {k o n : Nat} {K : Heap → Prop}
theorem setPart (hk : k < 18) (hn : n = siz18 k) (hoff : o = off18 k) (hs : St h0 h (kn (fun h => Part h l m' k) :: pts mb 0 false cs :: kn (fun h => MsR h cs m) :: G)) (hl : l.length = siz18 k) (ho : ones l)
    (keep : ∀ h c j, j ≠ k → Part h c m j → Part h c m' j) (hK : ∀ h' cs', St h0 h' (pts mb 0 false cs' :: kn (fun h => MsR h cs' m') :: G) → K h') : Vc.storeP (some n) h (Addr.mk mb o none) (.agg l.toArray) K := by
  have hlen := (hs.up2.known).len
  have hin := parts_in k hk
  have hc : (Value.agg l.toArray).cells = l.toArray := rfl
  have := hs.up1.storeRow (i := o) (n := n) (v := .agg l.toArray) (K := K) (by rw [hc]; simp [hl, hn]) (by omega) (by rw [hc]; exact one_list ho) fun h' s => by
    rw [hc] at s
    refine hK h' (lay cs o l) ?_
    have s1 : St h0 h' (kn (fun h => Part h l m' k) :: kn (fun h => MsR h cs m) :: pts mb 0 false (lay cs o l) :: G) := s.up2.up2
    exact (s1.knBoth.knMono fun h ⟨q1, q2⟩ => by rw [hoff]; exact msR_lay hk q2 hl ho q1 keep).up1
  rwa [Nat.zero_add] at this
theorem setPart1 {v : Value} (hk : k < 18) (hn : siz18 k = 1) (hoff : o = off18 k) (hs : St h0 h (kn (fun h => Part h [v] m' k) :: pts mb 0 false cs :: kn (fun h => MsR h cs m) :: G)) (ho : v.oneCell' = true)
    (keep : ∀ h c j, j ≠ k → Part h c m j → Part h c m' j) (hK : ∀ h' cs', St h0 h' (pts mb 0 false cs' :: kn (fun h => MsR h cs' m') :: G) → K h') : Vc.storeP none h (Addr.mk mb o none) v K := by
  have hlen := (hs.up2.known).len
  have hin := parts_in k hk
  refine hs.up1.store0 (by omega) ho fun h' s => hK h' (lay cs o [v]) ?_
  have e : cs.set o v = lay cs o [v] := by
    rw [← lay_cons (l := []) (by omega), lay_nil]
  rw [e] at s
  have s1 : St h0 h' (kn (fun h => Part h [v] m' k) :: kn (fun h => MsR h cs m) :: pts mb 0 false (lay cs o [v]) :: G) := s.up2.up2
  exact (s1.knBoth.knMono fun h ⟨q1, q2⟩ => by rw [hoff]; exact msR_lay hk q2 (by rw [hn]; rfl) (ones_cons ho ones_nil) q1 keep).up1
end
theorem keep_src {m : Ms} {x} : ∀ h c j, j ≠ 1 → Part h c m j → Part h c { m with src := x } j := by
  intro h c j hj q
  rcases j with _ | _ | _ | _ | _ | _ | _ | _ | _ | _ | _ | _ | _ | _ | _ | _ | _ | _ | j
  all_goals first | exact q | exact absurd rfl hj
theorem keep_dst {m : Ms} {x} : ∀ h c j, j ≠ 2 → Part h c m j → Part h c { m with dst := x } j := by
  intro h c j hj q
  rcases j with _ | _ | _ | _ | _ | _ | _ | _ | _ | _ | _ | _ | _ | _ | _ | _ | _ | _ | j
  all_goals first | exact q | exact absurd rfl hj
theorem keep_seq {m : Ms} {x} : ∀ h c j, j ≠ 3 → Part h c m j → Part h c { m with seq := x } j := by
  intro h c j hj q
  rcases j with _ | _ | _ | _ | _ | _ | _ | _ | _ | _ | _ | _ | _ | _ | _ | _ | _ | _ | j
  all_goals first | exact q | exact absurd rfl hj
theorem keep_epoch {m : Ms} {x} : ∀ h c j, j ≠ 4 → Part h c m j → Part h c { m with epoch := x } j := by
  intro h c j hj q
  rcases j with _ | _ | _ | _ | _ | _ | _ | _ | _ | _ | _ | _ | _ | _ | _ | _ | _ | _ | j
  all_goals first | exact q | exact absurd rfl hj
theorem keep_known {m : Ms} {x} : ∀ h c j, j ≠ 5 → Part h c m j → Part h c { m with known := x } j := by
  intro h c j hj q
  rcases j with _ | _ | _ | _ | _ | _ | _ | _ | _ | _ | _ | _ | _ | _ | _ | _ | _ | _ | j
  all_goals first | exact q | exact absurd rfl hj
theorem keep_err {m : Ms} {x} : ∀ h c j, j ≠ 6 → Part h c m j → Part h c { m with err := x } j := by
  intro h c j hj q
  rcases j with _ | _ | _ | _ | _ | _ | _ | _ | _ | _ | _ | _ | _ | _ | _ | _ | _ | _ | j
  all_goals first | exact q | exact absurd rfl hj
theorem keep_label {m : Ms} {x} : ∀ h c j, j ≠ 7 → Part h c m j → Part h c { m with label := x } j := by
  intro h c j hj q
  rcases j with _ | _ | _ | _ | _ | _ | _ | _ | _ | _ | _ | _ | _ | _ | _ | _ | _ | _ | j
  all_goals first | exact q | exact absurd rfl hj
theorem keep_value {m : Ms} {x} : ∀ h c j, j ≠ 8 → Part h c m j → Part h c { m with value := x } j := by
  intro h c j hj q
  rcases j with _ | _ | _ | _ | _ | _ | _ | _ | _ | _ | _ | _ | _ | _ | _ | _ | _ | _ | j
  all_goals first | exact q | exact absurd rfl hj
theorem keep_sg {m : Ms} {x} : ∀ h c j, j ≠ 9 → Part h c m j → Part h c { m with sg := x } j := by
  intro h c j hj q
  rcases j with _ | _ | _ | _ | _ | _ | _ | _ | _ | _ | _ | _ | _ | _ | _ | _ | _ | _ | j
  all_goals first | exact q | exact absurd rfl hj
theorem keep_growth {m : Ms} {x} : ∀ h c j, j ≠ 10 → Part h c m j → Part h c { m with growth := x } j := by
  intro h c j hj q
  rcases j with _ | _ | _ | _ | _ | _ | _ | _ | _ | _ | _ | _ | _ | _ | _ | _ | _ | _ | j
  all_goals first | exact q | exact absurd rfl hj
theorem keep_place {m : Ms} {x} : ∀ h c j, j ≠ 11 → Part h c m j → Part h c { m with place := x } j := by
  intro h c j hj q
  rcases j with _ | _ | _ | _ | _ | _ | _ | _ | _ | _ | _ | _ | _ | _ | _ | _ | _ | _ | j
  all_goals first | exact q | exact absurd rfl hj
theorem keep_tree {m : Ms} {x} : ∀ h c j, j ≠ 12 → Part h c m j → Part h c { m with tree := x } j := by
  intro h c j hj q
  rcases j with _ | _ | _ | _ | _ | _ | _ | _ | _ | _ | _ | _ | _ | _ | _ | _ | _ | _ | j
  all_goals first | exact q | exact absurd rfl hj
theorem keep_proof {m : Ms} {x} : ∀ h c j, j ≠ 13 → Part h c m j → Part h c { m with proof := x } j := by
  intro h c j hj q
  rcases j with _ | _ | _ | _ | _ | _ | _ | _ | _ | _ | _ | _ | _ | _ | _ | _ | _ | _ | j
  all_goals first | exact q | exact absurd rfl hj
theorem keep_chain {m : Ms} {x} : ∀ h c j, j ≠ 14 → Part h c m j → Part h c { m with chain := x } j := by
  intro h c j hj q
  rcases j with _ | _ | _ | _ | _ | _ | _ | _ | _ | _ | _ | _ | _ | _ | _ | _ | _ | _ | j
  all_goals first | exact q | exact absurd rfl hj
theorem keep_rows {m : Ms} {x} : ∀ h c j, j ≠ 15 → Part h c m j → Part h c { m with rows := x } j := by
  intro h c j hj q
  rcases j with _ | _ | _ | _ | _ | _ | _ | _ | _ | _ | _ | _ | _ | _ | _ | _ | _ | _ | j
  all_goals first | exact q | exact absurd rfl hj
theorem keep_news {m : Ms} {x} : ∀ h c j, j ≠ 16 → Part h c m j → Part h c { m with news := x } j := by
  intro h c j hj q
  rcases j with _ | _ | _ | _ | _ | _ | _ | _ | _ | _ | _ | _ | _ | _ | _ | _ | _ | _ | j
  all_goals first | exact q | exact absurd rfl hj
theorem keep_trees {m : Ms} {x} : ∀ h c j, j ≠ 17 → Part h c m j → Part h c { m with trees := x } j := by
  intro h c j hj q
  rcases j with _ | _ | _ | _ | _ | _ | _ | _ | _ | _ | _ | _ | _ | _ | _ | _ | _ | _ | j
  all_goals first | exact q | exact absurd rfl hj
section
variable {h0 h : Heap} {F : List HP} {rb xb mb : Nat} {bs : Bytes} {f : Bool}
theorem dfield_ok {cs : List Value} {m : Ms} (i : Nat) (hi : i < 17) (hs : St h0 h (W rb bs f :: pts xb 0 false [ptr rb] :: pts mb 0 false cs :: kn (fun h => MsR h cs m) :: F)) : CallsH Tryz.prog n_message_decoder_field #[ptr xb, ptr mb, .int .i64 (i : Int)] h fun v h' => v = .tuple #[] ∧ ∃ cs', St h0 h' (W rb (decF m i bs f).2.1 (decF m i bs f).2.2 :: pts xb 0 false [ptr rb] :: pts mb 0 false cs' :: kn (fun h => MsR h cs' (decF m i bs f).1) :: F) := by
  refine C_message_decoder_field (some (Addr.mk xb 0 none)) (some (Addr.mk mb 0 none)) i ?_
  unfold F_message_decoder_field
  simp only [deref_some, add_mk, Nat.zero_add]
  have fin : ∀ {h' : Heap} {cs' : List Value} {m' : Ms} {bs' : Bytes} {f' : Bool}, St h0 h' (pts mb 0 false cs' :: kn (fun h => MsR h cs' m') :: W rb bs' f' :: pts xb 0 false [ptr rb] :: F) → True ∧ ∃ cs', St h0 h' (W rb bs' f' :: pts xb 0 false [ptr rb] :: pts mb 0 false cs' :: kn (fun h => MsR h cs' m') :: F) := fun s => ⟨trivial, _, s.up2.up3.up1⟩
  rw [br_beq]
  refine ⟨fun e => ?_, fun e0 => ?_⟩
  · obtain rfl : i = 0 := by omega
    exact (dnum_ok hs).mono fun v h1 ⟨hv, st⟩ => ⟨_, hv, setPart1 (k := 1) (by omega) rfl rfl ((st.up2.up3.up1).knAdd fun h => (⟨rfl, decN_range bs f⟩ : Part h [.int .i64 (decN bs f).1] { m with src := (decN bs f).1 } 1)) rfl keep_src fun h' cs' s => fin s⟩
  rw [br_beq]
  refine ⟨fun e => ?_, fun e1 => ?_⟩
  · obtain rfl : i = 1 := by omega
    exact (dnum_ok hs).mono fun v h1 ⟨hv, st⟩ => ⟨_, hv, setPart1 (k := 2) (by omega) rfl rfl ((st.up2.up3.up1).knAdd fun h => (⟨rfl, decN_range bs f⟩ : Part h [.int .i64 (decN bs f).1] { m with dst := (decN bs f).1 } 2)) rfl keep_dst fun h' cs' s => fin s⟩
  rw [br_beq]
  refine ⟨fun e => ?_, fun e2 => ?_⟩
  · obtain rfl : i = 2 := by omega
    exact (dnum_ok hs).mono fun v h1 ⟨hv, st⟩ => ⟨_, hv, setPart1 (k := 3) (by omega) rfl rfl ((st.up2.up3.up1).knAdd fun h => (⟨rfl, decN_range bs f⟩ : Part h [.int .i64 (decN bs f).1] { m with seq := (decN bs f).1 } 3)) rfl keep_seq fun h' cs' s => fin s⟩
  rw [br_beq]
  refine ⟨fun e => ?_, fun e3 => ?_⟩
  · obtain rfl : i = 3 := by omega
    exact (dnum_ok hs).mono fun v h1 ⟨hv, st⟩ => ⟨_, hv, setPart1 (k := 4) (by omega) rfl rfl ((st.up2.up3.up1).knAdd fun h => (⟨rfl, decN_range bs f⟩ : Part h [.int .i64 (decN bs f).1] { m with epoch := (decN bs f).1 } 4)) rfl keep_epoch fun h' cs' s => fin s⟩
  rw [br_beq]
  refine ⟨fun e => ?_, fun e4 => ?_⟩
  · obtain rfl : i = 4 := by omega
    exact (dnum_ok hs).mono fun v h1 ⟨hv, st⟩ => ⟨_, hv, setPart1 (k := 5) (by omega) rfl rfl ((st.up2.up3.up1).knAdd fun h => (⟨rfl, decN_range bs f⟩ : Part h [.int .i64 (decN bs f).1] { m with known := (decN bs f).1 } 5)) rfl keep_known fun h' cs' s => fin s⟩
  rw [br_beq]
  refine ⟨fun e => ?_, fun e5 => ?_⟩
  · obtain rfl : i = 5 := by omega
    exact (derr_ok hs).mono fun v h1 ⟨hv, st⟩ => ⟨_, hv, setPart1 (k := 6) (by omega) rfl rfl ((st.up2.up3.up1).knAdd fun h => (⟨rfl, decE_range bs f⟩ : Part h [.int .i64 (decE bs f).1] { m with err := (decE bs f).1 } 6)) rfl keep_err fun h' cs' s => fin s⟩
  rw [br_beq]
  refine ⟨fun e => ?_, fun e6 => ?_⟩
  · obtain rfl : i = 6 := by omega
    exact (dtext_ok hs).mono fun v h1 ⟨p, l, c, hv, st⟩ => ⟨p, l, c, hv, setPart1 (k := 7) (m' := { m with label := (decT bs f).1 }) (by omega) rfl rfl ((st.up4.up4.up2).knMono fun h q => ⟨_, rfl, q⟩) rfl keep_label fun h' cs' s => fin s⟩
  rw [br_beq]
  refine ⟨fun e => ?_, fun e7 => ?_⟩
  · obtain rfl : i = 7 := by omega
    exact (dtext_ok hs).mono fun v h1 ⟨p, l, c, hv, st⟩ => ⟨p, l, c, hv, setPart1 (k := 8) (m' := { m with value := (decT bs f).1 }) (by omega) rfl rfl ((st.up4.up4.up2).knMono fun h q => ⟨_, rfl, q⟩) rfl keep_value fun h' cs' s => fin s⟩
  rw [br_beq]
  refine ⟨fun e => ?_, fun e8 => ?_⟩
  · obtain rfl : i = 8 := by omega
    exact ⟨_, hs.up1.cell0 (i := 0) rfl, (takes_head hs).mono fun v h1 ⟨l, hv, hl, ho, st⟩ => ⟨_, by simpa using hl, hv, setPart (k := 9) (m' := { m with sg := (decG bs f).1 }) (by omega) rfl rfl (st.up4.up4.up2) hl ho keep_sg fun h' cs' s => fin s⟩⟩
  rw [br_beq]
  refine ⟨fun e => ?_, fun e9 => ?_⟩
  · obtain rfl : i = 9 := by omega
    exact (takes_trail hs).mono fun v h1 ⟨l, hv, hl, ho, st⟩ => ⟨_, by simpa using hl, hv, setPart (k := 10) (m' := { m with growth := (decTr bs f).1 }) (by omega) rfl rfl (st.up4.up4.up2) hl ho keep_growth fun h' cs' s => fin s⟩
  rw [br_beq]
  refine ⟨fun e => ?_, fun e10 => ?_⟩
  · obtain rfl : i = 10 := by omega
    exact (takes_trail hs).mono fun v h1 ⟨l, hv, hl, ho, st⟩ => ⟨_, by simpa using hl, hv, setPart (k := 11) (m' := { m with place := (decTr bs f).1 }) (by omega) rfl rfl (st.up4.up4.up2) hl ho keep_place fun h' cs' s => fin s⟩
  rw [br_beq]
  refine ⟨fun e => ?_, fun e11 => ?_⟩
  · obtain rfl : i = 11 := by omega
    exact (dhash_ok hs).mono fun v h1 ⟨hv, st⟩ => ⟨_, by simp [bcs_length, decH_len], hv, setPart (k := 12) (m' := { m with tree := (decH bs f).1 }) (by omega) rfl rfl ((st.up2.up3.up1).knAdd fun h => ⟨rfl, decH_len bs f⟩) (by rw [bcs_length, decH_len]; rfl) (one_bcs _) keep_tree fun h' cs' s => fin s⟩
  rw [br_beq]
  refine ⟨fun e => ?_, fun e12 => ?_⟩
  · obtain rfl : i = 12 := by omega
    exact (takes_proof hs).mono fun v h1 ⟨l, hv, hl, ho, st⟩ => ⟨_, by simpa using hl, hv, setPart (k := 13) (m' := { m with proof := (decPr bs f).1 }) (by omega) rfl rfl (st.up4.up4.up2) hl ho keep_proof fun h' cs' s => fin s⟩
  rw [br_beq]
  refine ⟨fun e => ?_, fun e13 => ?_⟩
  · obtain rfl : i = 13 := by omega
    exact (takesL_version hs).mono fun v h1 ⟨p, l, c, hv, st⟩ => ⟨p, l, c, hv, setPart1 (k := 14) (m' := { m with chain := (decL decV bs f).1 }) (by omega) rfl rfl ((st.up4.up4.up2).knMono fun h q => ⟨_, rfl, q⟩) rfl keep_chain fun h' cs' s => fin s⟩
  rw [br_beq]
  refine ⟨fun e => ?_, fun e14 => ?_⟩
  · obtain rfl : i = 14 := by omega
    exact (takesL_row hs).mono fun v h1 ⟨p, l, c, hv, st⟩ => ⟨p, l, c, hv, setPart1 (k := 15) (m' := { m with rows := (decL decR bs f).1 }) (by omega) rfl rfl ((st.up4.up4.up2).knMono fun h q => ⟨_, rfl, q⟩) rfl keep_rows fun h' cs' s => fin s⟩
  rw [br_beq]
  refine ⟨fun e => ?_, fun e15 => ?_⟩
  · obtain rfl : i = 15 := by omega
    exact (takesL_news hs).mono fun v h1 ⟨p, l, c, hv, st⟩ => ⟨p, l, c, hv, setPart1 (k := 16) (m' := { m with news := (decL decW bs f).1 }) (by omega) rfl rfl ((st.up4.up4.up2).knMono fun h q => ⟨_, rfl, q⟩) rfl keep_news fun h' cs' s => fin s⟩
  rw [br_beq]
  refine ⟨fun e => ?_, fun e16 => ?_⟩
  · obtain rfl : i = 16 := by omega
    exact (takesL_hash hs).mono fun v h1 ⟨p, l, c, hv, st⟩ => ⟨p, l, c, hv, setPart1 (k := 17) (m' := { m with trees := (decL decH bs f).1 }) (by omega) rfl rfl ((st.up4.up4.up2).knMono fun h q => ⟨_, rfl, q⟩) rfl keep_trees fun h' cs' s => fin s⟩
  omega
end
end Go.Proofs.YthlmiijlhiiccaaGreat
