/- The table that numerals are made by. -/
import Derived.Test.YtejajdebpibocaaGreatDoorB00
import Derived.Lib.ItoaMem
import Derived.Test.YtejajdebpibocaaGreatDoorB05
import Derived.WalkKit
set_option linter.unusedVariables false
namespace Go.Tre
open Go.RowKit Go.Maps
/-- the table that the library's numerals are made by -/
def TabAt (w : World) : Prop := Lib.TabIs Go.Proofs.Tryz.prog w "internal/strconv.uint64pow10" .u64 Lib.pow10Tab
theorem TabAt.below {w w' : World} (h : TabAt w) (hb : Below w.heap.size w w') : TabAt w' := by
  have hg : Go.Proofs.Tryz.prog.globalNamed "internal/strconv.uint64pow10" = some 3 := by kernel_rfl
  unfold TabAt Lib.TabIs World.var? at h ⊢
  rw [hg] at h ⊢
  simp only [Option.bind_some] at h ⊢
  have hlt : 3 < w.heap.size := by
    rcases Nat.lt_or_ge 3 w.heap.size with h' | h'
    · exact h'
    · rw [Array.getElem?_eq_none h'] at h; cases h
  rw [hb.block _ hlt]
  exact h
/-- what the library's numerals leave behind -/
theorem below_grown (w : World) (k : Nat) (os : Array Obj) : Below w.heap.size w (Sort.grow (w.drewN k) os) := by
  have b1 : Below w.heap.size w (w.drewN k) := Go.below_drewN (Below.refl _ _) k
  refine b1.trans ⟨rfl, rfl, rfl, ?_, fun i hi => ?_⟩
  · simp [Sort.grow]
  · have hi' : i < (w.drewN k).heap.size := by have := b1.size; omega
    exact Array.getElem?_append_left hi'
end Go.Tre
