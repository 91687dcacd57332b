/- WireOwn: the row. The frame is the kit's own skeleton's. -/
import Derived.Test.YthhjkdebmmfndaaRows
import Derived.WalkKit
import Derived.ProofKit
import Derived.OpenShut
import Derived.ShutString
import Derived.ChangeOld
import Derived.Below
import Derived.Test.YthhjkdebmmfndaaPf
import Derived.Test.YthhjkdebmmfndaaRb
import Derived.Test.YthhjkdebmmfndaaWc
namespace Go.Proofs.Ythhjkdebmmfndaa.wireOwn
open Go.ChangeShapes Go.WideShapes Go.ChangeAt Go.RowKit
open Go.ChangeMaps (open_string shut_string)
set_option linter.unusedVariables false

theorem own : ownKnob Try.prog.godebug = none := by kernel_rfl
theorem laidOut : laidOutB Try.prog = true := by kernel_rfl

/-- A slice of numbers that came in. -/
def IsRow (k : IntKind) (w : World) (a : Option Addr) (len cap : Nat) (zs : List Int) : Prop :=
  (a = none ∧ len = 0 ∧ cap = 0 ∧ zs = []) ∨
  ∃ x, a = some x ∧ len ≤ cap ∧ cap ≤ maxLen ∧ zs.length = cap ∧ (∀ i, i < zs.length → w.cell? (x.add i) = some (.int k (zs.getD i 0))) ∧ ∀ n ∈ zs, (Lit.int k n).wf = true

theorem walk (a0 : Option Addr) (len0 cap0 : Nat) (z0 : List Int) (w : World) (w0 : IsRow .u8 w a0 len0 cap0 z0) :
    Calls Try.prog 3 #[.slice a0 len0 cap0] w fun e w' => e = .returned (.bool true) ∧ Below w.heap.size w w' := by
  obtain ⟨bs, hb⟩ := Go.Vc.Bs.of w0
  exact Go.Vc.below_of (wireOwn_ok hb)

set_option maxRecDepth 100000 in
theorem lifted (os : Os) (started : os.Started) (H : Type) (enc : TypeId × Value → H) :
    ReturnsInHanded {} Try.checked os 3 .any (Rows.wireOwnSpec.pre6 enc Try.prog Try.f3 Rows.wireOwnRow.domain false) (Rows.wireOwnSpec.post enc Try.prog Try.f3 false true false false) := by
  refine returnsInHanded_of_change (C := Try.checked) own started (by kernel_rfl) Try.func3
    (ChangeSpec.witness6 (enc := enc) (C := Try.checked) false ⟨#[], #[.slice none 0 0], []⟩ 8 (by kernel_rfl) (by kernel_rfl) (by kernel_rfl) (by kernel_rfl)) ?_
  intro W base args ds gs before hval0 hW hcnd _
  have hval : ∀ (j : Nat) t v, Try.f3.params[j]? = some t → args[j]? = some v → Value.okWide Try.prog W .any base t v := hval0
  have hW' := hW
  obtain ⟨p, q, hA0, hV, rfl, hfz, hnd⟩ := hW
  have hA : DataW.TrodAll enc Try.prog W 0 (fun _ => true) true Try.f3.params.toList args.toList ds p := hA0
  rw [Try.params3] at hA hval
  obtain ⟨v0, vs0, d0, ds0, p0, q0, hargs, rfl, rfl, h0, r0⟩ := trodAll_cons hA
  obtain ⟨rfl, rfl, rfl⟩ := trodAll_nil r0
  obtain rfl : args = #[v0] := by cases args; simp_all
  obtain ⟨rfl, rfl⟩ := trodVars_none hV
  obtain ⟨a0, len0, cap0, rfl⟩ := okWide_slice Try.underlying22 (hval 0 22 v0 rfl rfl)
  have k0 := h0
  have lt0 : ∀ x ∈ p0, x.block < W.heap.size := by obtain ⟨m, hm⟩ := k0; exact DataW.trod_lt m _ _ _ hm
  obtain ⟨z0, w0⟩ : ∃ zs, IsRow .u8 W a0 len0 cap0 zs := by
    obtain ⟨fuel, hf⟩ := h0
    rcases open_ints Try.underlying22 Try.underlying5 (by kernel_rfl) hf with ⟨hcs, _⟩ | ⟨x, l, c, zs, hcs, _, hl, hm, hz, _, hcell, hwz⟩
    · simp [Value.cells] at hcs
      obtain ⟨rfl, rfl, rfl⟩ := hcs
      exact ⟨[], .inl ⟨rfl, rfl, rfl, rfl⟩⟩
    · simp [Value.cells] at hcs
      obtain ⟨rfl, rfl, rfl⟩ := hcs
      exact ⟨zs, .inr ⟨_, rfl, hl, hm, by simpa using hz, hcell, hwz⟩⟩
  clear hA0 hval0
  refine (walk a0 len0 cap0 z0 W w0).mono fun e W' ⟨he, bel⟩ => ?_
  subst he
  exact ⟨_, rfl, _, _, _, [], _, [], hW', trodAll_mk1 (shut_bool Try.underlying4 _), (trodAll_cons_mk (Below.trod laidOut (by kernel_rfl) (of_decide_eq_true (by kernel_rfl)) k0 bel lt0) trodAll_mk0), rfl, bel.frame _, fun h => by cases h⟩

theorem k1 : (Rows.wireOwnRow.wf (OpenSpec.ofChange Rows.wireOwnSpec)) = true := by kernel_rfl
theorem k2 : (laidOutB Try.checked.prog) = true := pLaid
theorem k3 : (mapsRowed Try.checked.prog) = true := pRowed
theorem k4 : (Try.f3.params.all (Try.checked.prog.readableRec ·)) = true := by kernel_rfl
theorem k5 : (namedTie Try.checked.prog Rows.wireOwnRow.named Rows.wireOwnSpec.vars) = true := by kernel_rfl
theorem k6 : ((Rows.wireOwnRow.stops == [])) = true := by kernel_rfl
theorem k7 : ((Try.checked.prog.stops == [])) = true := pStops
theorem k8 : ((Rows.wireOwnRow.knobs == [])) = true := by kernel_rfl
theorem k9 : ((Try.checked.prog.stopKnobs == [])) = true := pKnobs
theorem k10 : ((Rows.wireOwnRow.inPlace == Try.checked.prog.inPlace 3)) = true := by kernel_rfl
theorem k11 : ((Rows.wireOwnRow.unfollowed == Try.checked.prog.unfollowed 3)) = true := by kernel_rfl
theorem k12 : ((Rows.wireOwnRow.recurses == Try.checked.prog.recurses 3)) = true := by kernel_rfl
theorem k13 : ((Rows.wireOwnRow.named == Try.checked.prog.varsNamed 3)) = true := by kernel_rfl
theorem k14 : ((Rows.wireOwnRow.maps == (Try.f3.params.toList ++ Rows.wireOwnSpec.plain.varTypes Try.checked.prog).any (Try.checked.prog.mapsRec ·))) = true := by kernel_rfl
theorem k15 : ((Rows.wireOwnRow.ifaces == (Try.f3.params.toList ++ Rows.wireOwnSpec.plain.varTypes Try.checked.prog).any (Try.checked.prog.ifacesRec ·))) = true := by kernel_rfl
theorem k16 : ((Rows.wireOwnRow.mapsOut == Try.checked.prog.mapsAmong Try.f3.resultTypes.toList)) = true := by kernel_rfl
theorem k17 : ((Rows.wireOwnRow.loops == (Try.f3.params.toList ++ Rows.wireOwnSpec.plain.varTypes Try.checked.prog).any (Try.checked.prog.loopsFrom ·))) = true := by kernel_rfl
theorem k18 : ((Rows.wireOwnRow.wideKeys == (Try.f3.params.toList ++ Rows.wireOwnSpec.plain.varTypes Try.checked.prog ++ Try.f3.resultTypes.toList).any (Try.checked.prog.wideKeysFrom ·))) = true := by kernel_rfl
theorem k19 : (Rows.wireOwnSpec.vars.all (Try.checked.prog.varReadable ·)) = true := by kernel_rfl
theorem k20 : (Try.f3.resultTypes.all (fun t => Try.checked.prog.readableRec t && decide (t < Try.checked.prog.types.size))) = true := by kernel_rfl
theorem k21 : ((Rows.wireOwnRow.ifacesOut == Try.f3.resultTypes.toList.any (Try.checked.prog.ifacesRec ·))) = true := by kernel_rfl
theorem k22 : ((Rows.wireOwnRow.loopsOut == Try.f3.resultTypes.toList.any (Try.checked.prog.loopsFrom ·))) = true := by kernel_rfl
theorem k23 : ((Rows.wireOwnRow.plainKeys == Try.checked.prog.plainKeys)) = true := by rw [pKeys]; kernel_rfl
theorem k24 : (Rows.wireOwnRow.shortTexts.isNone) = true := by kernel_rfl
theorem k25 : (Try.checked.prog.stopsHeard) = true := pHeard
theorem k26 : (Try.checked.prog.mayEnter) = true := enters
theorem k27 : ((Rows.wireOwnRow.lifted == Try.checked.prog.liftsFinal)) = true := by rw [liftsF]; kernel_rfl
theorem k28 : ((Try.checked.prog.make == some Rows.wireOwnRow.make)) = true := by rw [makeIs]; kernel_rfl
theorem k29 : ((Rows.wireOwnRow.kinds == (if Rows.wireOwnRow.domain.isEmpty then [] else Try.f3.params.toList.map fun t => match Try.checked.prog.underlying t with | some (.int k) => some k | _ => none))) = true := by kernel_rfl
theorem k30 : ((Rows.wireOwnRow.pinned == Rows.wireOwnRow.pinnedBy)) = true := by kernel_rfl
theorem k31 : ((Rows.wireOwnRow.veiled == (Try.f3.params.toList ++ Rows.wireOwnSpec.plain.varTypes Try.checked.prog ++ Try.f3.resultTypes.toList).any (Try.checked.prog.veiledRec ·))) = true := by kernel_rfl
theorem k32 : (Rows.wireOwnRow.veiledFits Try.checked.prog Try.f3.params.toList (Try.f3.params.toList ++ Rows.wireOwnSpec.plain.varTypes Try.checked.prog ++ Try.f3.resultTypes.toList)) = true := by kernel_rfl
set_option maxRecDepth 100000 in
theorem facts : joinedFacts Try.checked.prog 3 Try.f3 Rows.wireOwnSpec Rows.wireOwnRow = true := both (both (both (both (both (both (both (both (both (both (both (both (both (both (both (both (both (both (both (both (both (both (both (both (both (both (both (both (both (both (both (k1) k2) k3) k4) k5) k6) k7) k8) k9) k10) k11) k12) k13) k14) k15) k16) k17) k18) k19) k20) k21) k22) k23) k24) k25) k26) k27) k28) k29) k30) k31) k32
theorem named : Try.checked.prog.funcNamed Rows.wireOwnRow.func = some 3 := by kernel_rfl

theorem over : Rows.wireOwnRow.holds Try.pinned (OpenSpec.ofChange Rows.wireOwnSpec) :=
  OpenClaim.holds_of_wide 3 Try.f3 rfl rfl rfl rfl rfl rfl rfl ⟨rfl, rfl, rfl, rfl, rfl⟩ rfl rfl rfl rfl rfl named Try.func3 facts
    (of_decide_eq_true (by kernel_rfl)) (by unfold Func.isWrapper; first | (rw [if_pos (by decide +kernel)]; kernel_rfl) | (rw [if_neg (by decide +kernel)]; exact ⟨rfl, rfl⟩))
    (fun os started H enc _ => lifted os started H enc)

theorem proved : Rows.WireOwnSaid := over
#print axioms proved
end Go.Proofs.Ythhjkdebmmfndaa.wireOwn
