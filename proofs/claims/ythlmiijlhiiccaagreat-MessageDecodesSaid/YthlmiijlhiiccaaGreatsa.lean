/- Layer 18: what is equal: keys, lists. -/
import Derived.Test.YthlmiijlhiiccaaGreatmj
import Derived.Test.YthlmiijlhiiccaaGreatL3
import Derived.Test.YthlmiijlhiiccaaGreatFo
set_option linter.unusedVariables false
set_option linter.unusedSimpArgs false
set_option maxRecDepth 100000
namespace Go.Proofs.YthlmiijlhiiccaaGreat
open Go Go.Vc Go.Proofs Go.Vc.Keys
def hashL (x : Bytes) : List Lit := (x.map fun b => (b.toNat : Int)).map (Lit.int .u8)
def pfL (p : Pf) : List Lit := Lit.int .i64 p.len :: hashL p.bits
theorem kl_struct {d : Nat} {t : TypeId} {fs : Array Field} {cs : List Value} {parts : List (List Lit)} (hu : Tryz.prog.underlying t = some (.struct fs)) (hl : cs.length = Tryz.prog.cellsOf t) (hall : fs.all (·.name != "_") = true)
    (hp : (fs.toList.mapM fun f => Tryz.prog.keyLits d f.type ((cs.drop f.offset).take (Tryz.prog.cellsOf f.type))) = some parts) : Tryz.prog.keyLits (d + 1) t cs = some parts.flatten := by
  rw [Program.keyLits.eq_def]
  simp only
  rw [hu]
  simp only
  rw [if_pos ⟨hl, hall⟩, hp]
  rfl
theorem kl_tk {d : Nat} {t : TypeId} {cs a r : List Value} {i n : Nat} {L : List Lit} (dd : cs.drop i = a ++ r) (hl : a.length = n) (hc : Tryz.prog.cellsOf t = n) (h : Tryz.prog.keyLits d t a = some L) : Tryz.prog.keyLits d t ((cs.drop i).take (Tryz.prog.cellsOf t)) = some L := by
  rw [hc, tk dd hl]; exact h
theorem mapM_two {α β : Type} {g : α → Option β} {a b : α} {x y : β} (h1 : g a = some x) (h2 : g b = some y) : [a, b].mapM g = some [x, y] := by simp [h1, h2]
theorem mapM_four {α β : Type} {g : α → Option β} {a b c d : α} {x y z w : β} (h1 : g a = some x) (h2 : g b = some y) (h3 : g c = some z) (h4 : g d = some w) : [a, b, c, d].mapM g = some [x, y, z, w] := by simp [h1, h2, h3, h4]
theorem mapM_six {α β : Type} {g : α → Option β} {a b c d e f : α} {x y z w u v : β} (h1 : g a = some x) (h2 : g b = some y) (h3 : g c = some z) (h4 : g d = some w) (h5 : g e = some u) (h6 : g f = some v) : [a, b, c, d, e, f].mapM g = some [x, y, z, w, u, v] := by simp [h1, h2, h3, h4, h5, h6]
theorem c_int : Tryz.prog.cellsOf t_int = 1 := by kernel_rfl
theorem c_bool : Tryz.prog.cellsOf t_bool = 1 := by kernel_rfl
theorem c_hash : Tryz.prog.cellsOf t_api_Hash = 32 := by kernel_rfl
theorem c_prefix : Tryz.prog.cellsOf t_api_Prefix = 33 := by kernel_rfl
theorem c_head : Tryz.prog.cellsOf t_head_Head = 66 := by kernel_rfl
theorem c_step : Tryz.prog.cellsOf t_proof_Step = 65 := by kernel_rfl
theorem c_row : Tryz.prog.cellsOf t_delta_Row = 162 := by kernel_rfl
theorem kl_int {d : Nat} {n : Int} (hn : I64 n) : Tryz.prog.keyLits (d + 1) t_int [.int .i64 n] = some [Lit.int .i64 n] := by
  rw [Program.keyLits.eq_def]
  simp only
  rw [u_int]
  simp [i64_wf hn]
theorem kl_bool {d : Nat} {b : Bool} : Tryz.prog.keyLits (d + 1) t_bool [.bool b] = some [Lit.bool b] := by
  rw [Program.keyLits.eq_def]
  simp only
  rw [u_bool]
theorem kl_hash {d : Nat} {x : Bytes} (hx : x.length = 32) : Tryz.prog.keyLits (d + 2) t_api_Hash (bcs x) = some (hashL x) := keyLits_hash d hx
theorem kl_prefix {d : Nat} {p : Pf} (hp : PfOk p) : Tryz.prog.keyLits (d + 3) t_api_Prefix (pfC p) = some (pfL p) := by
  have hl : (bcs p.bits).length = 32 := by rw [bcs_length, hp.1]
  have d0 : (pfC p).drop 0 = [.int .i64 p.len] ++ bcs p.bits := rfl
  have d1 := dn d0 rfl (show bcs p.bits = bcs p.bits ++ [] by rw [List.append_nil])
  have := kl_struct (d := d + 2) (cs := pfC p) u_api_Prefix (by rw [c_prefix]; simp [pfC, hl]) (by decide +kernel) (mapM_two (x := [Lit.int .i64 p.len]) (y := hashL p.bits) (by
      show Tryz.prog.keyLits (d + 2) t_int (((pfC p).drop 0).take (Tryz.prog.cellsOf t_int)) = _
      exact kl_tk d0 rfl c_int (kl_int hp.2)) (by
      show Tryz.prog.keyLits (d + 2) t_api_Hash (((pfC p).drop 1).take (Tryz.prog.cellsOf t_api_Hash)) = _
      exact kl_tk d1 hl c_hash (kl_hash hp.1)))
  rw [this]
  simp [pfL]
theorem hashL_inj {x y : Bytes} (h : hashL x = hashL y) : x = y := toInts_inj h
theorem hashL_len {x : Bytes} (hx : x.length = 32) : (hashL x).length = 32 := by simp [hashL, hx]
theorem pfL_len {p : Pf} (hp : PfOk p) : (pfL p).length = 33 := by simp [pfL, hashL_len hp.1]
theorem pfL_inj {p q : Pf} (h : pfL p = pfL q) : p = q := by
  obtain ⟨h1, h2⟩ := List.cons.inj h
  have h1 : p.len = q.len := by simpa using h1
  have h2 := hashL_inj h2
  cases p; cases q
  simp only at h1 h2
  rw [h1, h2]
theorem app_inj {α : Type} {a b c d : List α} (hl : a.length = c.length) (h : a ++ b = c ++ d) : a = c ∧ b = d := List.append_inj h hl
def stL (s : Stp) : List Lit := pfL s.p ++ hashL s.other
def hdL (s : Sg) : List Lit := Lit.int .i64 s.epoch :: Lit.int .i64 s.tick :: (hashL s.tree ++ hashL s.log)
def rwL (r : Rw) : List Lit := Lit.bool r.leaf :: (hashL r.key ++ (hashL r.value ++ (pfL r.p ++ (hashL r.left ++ hashL r.right))))
theorem kl_step {h : Heap} {cs : List Value} {s : Stp} (r : StpR h cs s) : Tryz.prog.keyLits 9 t_proof_Step cs = some (stL s) := by
  obtain ⟨hp, ho, rfl⟩ := r
  have l1 : (pfC s.p).length = 33 := by have := hp.1; simp [pfC, bcs_length]; omega
  have l2 : (bcs s.other).length = 32 := by rw [bcs_length, ho]
  have d0 : (pfC s.p ++ bcs s.other).drop 0 = pfC s.p ++ bcs s.other := rfl
  have d1 := dn d0 l1 (show bcs s.other = bcs s.other ++ [] by rw [List.append_nil])
  have := kl_struct (d := 8) (cs := pfC s.p ++ bcs s.other) u_proof_Step (by rw [c_step]; simp [l1, l2]) (by decide +kernel) (mapM_two (x := pfL s.p) (y := hashL s.other) (by
      show Tryz.prog.keyLits 8 t_api_Prefix (((pfC s.p ++ bcs s.other).drop 0).take (Tryz.prog.cellsOf t_api_Prefix)) = _
      exact kl_tk d0 l1 c_prefix (kl_prefix hp)) (by
      show Tryz.prog.keyLits 8 t_api_Hash (((pfC s.p ++ bcs s.other).drop 33).take (Tryz.prog.cellsOf t_api_Hash)) = _
      exact kl_tk d1 l2 c_hash (kl_hash ho)))
  rw [this]
  simp [stL]
theorem kl_row {h : Heap} {cs : List Value} {r : Rw} (hr : RwR h cs r) : Tryz.prog.keyLits 9 t_delta_Row cs = some (rwL r) := by
  obtain ⟨hk, hv, hp, hx, hy, hcs⟩ := hr
  have l1 : (bcs r.key).length = 32 := by rw [bcs_length, hk]
  have l2 : (bcs r.value).length = 32 := by rw [bcs_length, hv]
  have l3 : (pfC r.p).length = 33 := by have := hp.1; simp [pfC, bcs_length]; omega
  have l4 : (bcs r.left).length = 32 := by rw [bcs_length, hx]
  have l5 : (bcs r.right).length = 32 := by rw [bcs_length, hy]
  have d0 : cs.drop 0 = [.bool r.leaf] ++ (bcs r.key ++ (bcs r.value ++ (pfC r.p ++ (bcs r.left ++ bcs r.right)))) := hcs
  have d1 := dn d0 rfl rfl
  have d2 := dn d1 l1 rfl
  have d3 := dn d2 l2 rfl
  have d4 := dn d3 l3 rfl
  have d5 := dn d4 l4 (show bcs r.right = bcs r.right ++ [] by rw [List.append_nil])
  have := kl_struct (d := 8) (cs := cs) u_delta_Row (by rw [c_row, hcs]; simp [l1, l2, l3, l4, l5]) (by decide +kernel) (mapM_six (x := [Lit.bool r.leaf]) (y := hashL r.key) (z := hashL r.value) (w := pfL r.p) (u := hashL r.left) (v := hashL r.right) (by
      show Tryz.prog.keyLits 8 t_bool ((cs.drop 0).take (Tryz.prog.cellsOf t_bool)) = _
      exact kl_tk d0 rfl c_bool (kl_bool)) (by
      show Tryz.prog.keyLits 8 t_api_Hash ((cs.drop 1).take (Tryz.prog.cellsOf t_api_Hash)) = _
      exact kl_tk d1 l1 c_hash (kl_hash hk)) (by
      show Tryz.prog.keyLits 8 t_api_Hash ((cs.drop 33).take (Tryz.prog.cellsOf t_api_Hash)) = _
      exact kl_tk d2 l2 c_hash (kl_hash hv)) (by
      show Tryz.prog.keyLits 8 t_api_Prefix ((cs.drop 65).take (Tryz.prog.cellsOf t_api_Prefix)) = _
      exact kl_tk d3 l3 c_prefix (kl_prefix hp)) (by
      show Tryz.prog.keyLits 8 t_api_Hash ((cs.drop 98).take (Tryz.prog.cellsOf t_api_Hash)) = _
      exact kl_tk d4 l4 c_hash (kl_hash hx)) (by
      show Tryz.prog.keyLits 8 t_api_Hash ((cs.drop 130).take (Tryz.prog.cellsOf t_api_Hash)) = _
      exact kl_tk d5 l5 c_hash (kl_hash hy)))
  rw [this]
  simp [rwL]
theorem kl_head {h : Heap} {cs : List Value} {s : Sg} (r : SgR h cs s) : Tryz.prog.keyLits 9 t_head_Head ((cs.drop 0).take 66) = some (hdL s) := by
  have hl := r.len
  have e0 : ((cs.drop 0).take 66).drop 0 = [.int .i64 s.epoch] ++ (((cs.drop 0).take 66).drop 1) := by
    have h0 : ((cs.drop 0).take 66)[0]? = some (.int .i64 s.epoch) := by rw [List.drop_zero, List.getElem?_take, if_pos (by omega)]; exact r.epoch
    have hlt : 0 < ((cs.drop 0).take 66).length := by simp; omega
    rw [List.drop_eq_getElem_cons hlt]
    rw [List.getElem?_eq_getElem hlt, Option.some.injEq] at h0
    rw [h0]; rfl
  have e1 : (((cs.drop 0).take 66).drop 1).take 1 = [.int .i64 s.tick] := by
    have h0 : ((cs.drop 0).take 66)[1]? = some (.int .i64 s.tick) := by rw [List.drop_zero, List.getElem?_take, if_pos (by omega)]; exact r.tick
    have hlt : 1 < ((cs.drop 0).take 66).length := by simp; omega
    rw [List.drop_eq_getElem_cons hlt]
    rw [List.getElem?_eq_getElem hlt, Option.some.injEq] at h0
    rw [h0]; rfl
  have e2 : (((cs.drop 0).take 66).drop 2).take 32 = bcs s.tree := by rw [List.drop_zero, List.drop_take, List.take_take]; exact r.tree
  have e3 : (((cs.drop 0).take 66).drop 34).take 32 = bcs s.log := by rw [List.drop_zero, List.drop_take, List.take_take]; exact r.log
  have hi := r.ints
  have hls := r.lens
  have := kl_struct (d := 8) (cs := (cs.drop 0).take 66) u_head_Head (by rw [c_head]; simp; omega) (by decide +kernel) (mapM_four (x := [Lit.int .i64 s.epoch]) (y := [Lit.int .i64 s.tick]) (z := hashL s.tree) (w := hashL s.log) (by
      show Tryz.prog.keyLits 8 t_int ((((cs.drop 0).take 66).drop 0).take (Tryz.prog.cellsOf t_int)) = _
      exact kl_tk e0 rfl c_int (kl_int hi.1)) (by
      show Tryz.prog.keyLits 8 t_int ((((cs.drop 0).take 66).drop 1).take (Tryz.prog.cellsOf t_int)) = _
      rw [c_int, e1]; exact kl_int hi.2) (by
      show Tryz.prog.keyLits 8 t_api_Hash ((((cs.drop 0).take 66).drop 2).take (Tryz.prog.cellsOf t_api_Hash)) = _
      rw [c_hash, e2]; exact kl_hash hls.1) (by
      show Tryz.prog.keyLits 8 t_api_Hash ((((cs.drop 0).take 66).drop 34).take (Tryz.prog.cellsOf t_api_Hash)) = _
      rw [c_hash, e3]; exact kl_hash hls.2))
  rw [this]
  simp [hdL]
theorem stL_inj {s t : Stp} (hs : PfOk s.p) (ht : PfOk t.p) (h : stL s = stL t) : s = t := by
  obtain ⟨h1, h2⟩ := app_inj (by rw [pfL_len hs, pfL_len ht]) h
  have h1 := pfL_inj h1
  have h2 := hashL_inj h2
  cases s; cases t
  simp only at h1 h2
  rw [h1, h2]
theorem rwL_inj {h : Heap} {cs ds : List Value} {s t : Rw} (hs : RwR h cs s) (ht : RwR h ds t) (e : rwL s = rwL t) : s = t := by
  obtain ⟨a1, a2, a3, a4, a5, _⟩ := hs
  obtain ⟨b1, b2, b3, b4, b5, _⟩ := ht
  obtain ⟨g0, e⟩ := List.cons.inj e
  obtain ⟨g1, e⟩ := app_inj (by rw [hashL_len a1, hashL_len b1]) e
  obtain ⟨g2, e⟩ := app_inj (by rw [hashL_len a2, hashL_len b2]) e
  obtain ⟨g3, e⟩ := app_inj (by rw [pfL_len a3, pfL_len b3]) e
  obtain ⟨g4, e⟩ := app_inj (by rw [hashL_len a4, hashL_len b4]) e
  have g0 : s.leaf = t.leaf := by simpa using g0
  have g1 := hashL_inj g1
  have g2 := hashL_inj g2
  have g3 := pfL_inj g3
  have g4 := hashL_inj g4
  have g5 := hashL_inj e
  cases s; cases t
  simp only at g0 g1 g2 g3 g4 g5
  rw [g0, g1, g2, g3, g4, g5]
theorem hdL_inj {s t : Sg} (hs : s.tree.length = 32) (ht : t.tree.length = 32) (e : hdL s = hdL t) : s.epoch = t.epoch ∧ s.tick = t.tick ∧ s.tree = t.tree ∧ s.log = t.log := by
  obtain ⟨g0, e⟩ := List.cons.inj e
  obtain ⟨g1, e⟩ := List.cons.inj e
  obtain ⟨g2, e⟩ := app_inj (by rw [hashL_len hs, hashL_len ht]) e
  exact ⟨by simpa using g0, by simpa using g1, hashL_inj g2, hashL_inj e⟩
section
variable {h : Heap} {K : Bool → Prop}
theorem eqA_hash {x y : Bytes} (hx : x.length = 32) (hy : y.length = 32) (hk : ∀ t, (t = true ↔ x = y) → K t) : eqAgg Tryz.prog t_api_Hash (bcs x).toArray (bcs y).toArray K :=
  eq_hash hx hy (hk _ (by rw [decide_eq_true_iff]))
theorem eqA_prefix {p q : Pf} (hp : PfOk p) (hq : PfOk q) (hk : ∀ t, (t = true ↔ p = q) → K t) : eqAgg Tryz.prog t_api_Prefix (pfC p).toArray (pfC q).toArray K :=
  ⟨_, _, kl_prefix (d := 6) hp, kl_prefix (d := 6) hq, fun r hr => hk r (hr.trans ⟨pfL_inj, fun e => by rw [e]⟩)⟩
theorem eqA_HashR {cs ds : List Value} {x y : Bytes} (hx : HashR h cs x) (hy : HashR h ds y) (hk : ∀ t, (t = true ↔ x = y) → K t) : eqAgg Tryz.prog t_api_Hash cs.toArray ds.toArray K := by
  obtain ⟨h1, rfl⟩ := hx
  obtain ⟨h2, rfl⟩ := hy
  exact eqA_hash h1 h2 hk
theorem eqA_StpR {cs ds : List Value} {x y : Stp} (hx : StpR h cs x) (hy : StpR h ds y) (hk : ∀ t, (t = true ↔ x = y) → K t) : eqAgg Tryz.prog t_proof_Step cs.toArray ds.toArray K :=
  ⟨_, _, kl_step hx, kl_step hy, fun r hr => hk r (hr.trans ⟨stL_inj hx.1 hy.1, fun e => by rw [e]⟩)⟩
theorem eqA_RwR {cs ds : List Value} {x y : Rw} (hx : RwR h cs x) (hy : RwR h ds y) (hk : ∀ t, (t = true ↔ x = y) → K t) : eqAgg Tryz.prog t_delta_Row cs.toArray ds.toArray K :=
  ⟨_, _, kl_row hx, kl_row hy, fun r hr => hk r (hr.trans ⟨rwL_inj hx hy, fun e => by rw [e]⟩)⟩
theorem eqA_head {cs ds : List Value} {x y : Sg} (hx : SgR h cs x) (hy : SgR h ds y) (hk : ∀ t, (t = true ↔ (x.epoch = y.epoch ∧ x.tick = y.tick ∧ x.tree = y.tree ∧ x.log = y.log)) → K t) : eqAgg Tryz.prog t_head_Head ((cs.drop 0).take 66).toArray ((ds.drop 0).take 66).toArray K :=
  ⟨_, _, kl_head hx, kl_head hy, fun r hr => hk r (hr.trans ⟨hdL_inj hx.lens.1 hy.lens.1, fun ⟨e1, e2, e3, e4⟩ => by unfold hdL; rw [e1, e2, e3, e4]⟩)⟩
end
end Go.Proofs.YthlmiijlhiiccaaGreat
