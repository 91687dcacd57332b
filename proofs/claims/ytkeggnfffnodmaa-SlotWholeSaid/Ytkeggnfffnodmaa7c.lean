/- Laws of layer 7 that ask no reference. -/
import Derived.Test.Ytkeggnfffnodmaa7b
import Derived.Test.YtkeggnfffnodmaaFe
set_option linter.unusedVariables false
set_option maxRecDepth 100000
namespace Go.Proofs.Ytkeggnfffnodmaa
open Go Go.Vc Go.Proofs
section
variable {h0 h : Heap} {F : List HP} {b n : Nat} {D : Dev}

/- ### What a device answers -/
theorem opD_pos (h : 0 < D.fuse) : opD D = { D with fuse := D.fuse - 1 } := by rw [opD, if_neg (by omega), if_pos h]
theorem opD_neg (h : D.fuse < 0) : opD D = D := by rw [opD, if_neg (by omega), if_neg (by omega)]
theorem opD_zero (h : D.fuse = 0) : opD D = { D with down := true } := by rw [opD, if_pos h]
theorem reach_down (h : D.down = true) (i : Int) : reachE D i = 6 := by rw [reachE, if_pos h]
theorem reach_zero {i : Nat} (w : D.Wf n) (hd : D.down = false) (hi : i < n) : reachE D i = 0 := by
  have := w.len
  rw [reachE, if_neg (by simp [hd]), if_neg (by omega)]
theorem reach_out {i : Int} (w : D.Wf n) (hd : D.down = false) (hi : i < 0 ∨ n ≤ i) : reachE D i = 4 := by
  have := w.len
  rw [reachE, if_neg (by simp [hd]), if_pos (by omega)]
theorem writeD_one {i : Nat} {xs : List UInt8} (w : D.Wf n) (hd : D.down = false) (hi : i < n) (hx : xs.length ≠ 128) : writeD D i xs = (1, D) := by
  rw [writeD, if_neg (by simpa using reach_zero w hd hi), if_pos hx]
theorem writeD_zero {i : Nat} {xs : List UInt8} (w : D.Wf n) (hd : D.down = false) (hi : i < n) (hx : xs.length = 128) (ho : (opD D).down = false) : writeD D i xs = (0, { opD D with queue := D.queue ++ [(i, xs)] }) := by
  rw [writeD, if_neg (by simpa using reach_zero w hd hi), if_neg (by omega), if_neg (by simp [ho]), Int.toNat_natCast]
theorem flushD_zero (hd : D.down = false) (ho : (opD D).down = false) : flushD D = (0, { opD D with lasts := D.seen, queue := [] }) := by
  rw [flushD, if_neg (by simp [hd]), if_neg (by simp [ho])]
theorem _root_.Go.Vc.St.rdNil (hs : St h0 h F) (sz : Nat) : St h0 h (rdo sz none 0 [] :: F) := hs.add fun m => ⟨by simp, .inl (by simp)⟩
theorem zeros_bcs : List.replicate (128 * 1) (Value.int .u8 0) = bcs (List.replicate 128 0) := by rw [bcs_replicate]; rfl
theorem make128 {K : Nat → Heap → Prop} (hs : St h0 h F) (hk : ∀ b h', St h0 h' (own 1 (some (Addr.mk b 0 none)) 128 128 (bcs (List.replicate 128 0)) :: F) → K b h') : makeP 5 1 1 #[Value.int .u8 0] 128 128 h K :=
  hs.make (l := 128) (c := 128) (z := .int .u8 0) rfl (by omega) (Nat.le_refl _) (by unfold maxLen; omega) (by omega) fun b h' s => hk b h' (by rw [zeros_bcs] at s; exact s)

end
end Go.Proofs.Ytkeggnfffnodmaa
