/- From a call over heaps to the row's own walk. -/
import Derived.Below
import Derived.Test.YtkeggnfffnodmaaHq
namespace Go.Vc
open Go
open Go.RowKit

/-- True, and nothing that was there has changed. -/
theorem below_of {P : Program} {f : FuncId} {args : Array Value} {w : World} (hh : CallsH P f args w.heap fun v h' => v = .bool true ∧ Ext w.heap h') :
    Calls P f args w fun e w' => e = .returned (.bool true) ∧ Below w.heap.size w w' :=
  (hh w rfl).mono fun e w' ⟨v, he, hr, hv, hx⟩ => ⟨by rw [he, hv], ⟨hr.2.1, hr.1, hr.2.2, hx.size, hx⟩⟩
end Go.Vc
