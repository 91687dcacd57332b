/- Keys and prefixes that came in with a call. -/
import Derived.Test.Ytnaeicepapokjaa3f
import Derived.Test.YtnaeicepapokjaaRd
set_option linter.unusedVariables false
namespace Go.Proofs.Ytnaeicepapokjaa
open Go Go.Vc Go.Proofs Go.Vc.Keys
theorem hash_arg {h : Heap} {v : Value} (a : ArgR h (.arr 32 (.int .u8)) v) : ∃ ks, ks.length = 32 ∧ v = .agg (hv ks) := by
  obtain ⟨cs, e, hr⟩ := a
  obtain ⟨ks, h1, h2⟩ := hr.byteArr
  refine ⟨ks, h1, ?_⟩
  rw [e]
  congr 1
  exact Array.toList_inj.1 (by rw [h2])
theorem prefix_arg {h : Heap} {v : Value} (a : ArgR h (.cons (.int .i64) (.cons (.arr 32 (.int .u8)) .nil)) v) : ∃ l ks, I64 l ∧ ks.length = 32 ∧ v = .agg (pv l ks) := by
  obtain ⟨cs, e, x, y, e1, ⟨n, hx, hw⟩, z, u, e2, hz, hu⟩ := a
  obtain ⟨ks, h1, h2⟩ := Rdb.byteArr hz
  have hu : u = [] := hu
  refine ⟨n, ks, wf_i64 hw, h1, ?_⟩
  rw [e]
  congr 1
  apply Array.toList_inj.1
  rw [e1, hx, e2, h2, hu]
  simp
end Go.Proofs.Ytnaeicepapokjaa
