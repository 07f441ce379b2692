/- graph.Same, at any two graphs. -/
import Derived.Test.YtoieknnnadgfpaaGreatDoorB37
import Derived.Test.YtoieknnnadgfpaaGreatDoorB07
set_option linter.unusedVariables false
namespace Go.Proofs.YtoieknnnadgfpaaGreatDoor.gr
open Go.RowKit Go.Maps Go.Tre lex

set_option maxRecDepth 100000 in
set_option maxHeartbeats 4000000 in
theorem same_any (a b : Option Addr) (ca cb : Nat) (g h : Tre.Graph) (w : World) (hg : NodesAt w a g.ns) (hh : NodesAt w b h.ns) (wg : g.weight ≤ 2097152) (wh : h.weight ≤ 2097152) (hm : MaxAt w) :
  Calls Tryz.prog 17 #[.agg #[.slice a g.ns.length ca, .int .i64 g.root], .agg #[.slice b h.ns.length cb, .int .i64 h.root]] w fun e w' => e = .returned (.bool (sameB g h)) ∧ Below w.heap.size w w' := by
 by_cases c0 : g.checkC = 0
 ·by_cases c1 : h.checkC = 0
  ·refine same_ok a b ca cb g h w hg hh (by omega) (by omega) hm ?_ c0 c1
   have h1 := left_le g h
   have h2 := len_weight h
   have h3 : g.weight * h.ns.length ≤ 2097152 * 2097152 := Nat.mul_le_mul wg (by omega)
   omega
  ·have b2 : Below w.heap.size w ((w.alloc (.cells #[.slice a g.ns.length ca, .int .i64 g.root] 24)).alloc (.cells #[.slice b h.ns.length cb, .int .i64 h.root] 24)) := ((Below.refl _ _).alloc (Nat.le_refl _) _).alloc (by simp) _
   have HM := Tre.hid hm
   have HG := Tre.hid hg
   have HH := Tre.hid hh
   have HC0 := Tre.hid c0
   have t1 := not_ok c1
   have HN : Hid (¬ SameG g h) := fun s => c1 s.okh
   clear hg hh hm c0 c1
   go_enter Tryz.func17, Tryz.ntmps17
   go_wp2_with fail
   refine (check_any a ca g _ (HG.out.below b2) (by omega) (HM.out.below b2)).mono ?_
   rintro e w1 ⟨rfl, d1⟩
   rw [HC0.out]
   have h0 : w1.cell? ⟨w.heap.size + 1, 0, none⟩ = some (.slice b h.ns.length cb) := cell_below d1 (cell_of_heap (heap_two _ _ _) rfl)
   have h1 : w1.cell? ⟨w.heap.size + 1, 1, none⟩ = some (.int .i64 h.root) := cell_below d1 (cell_of_heap (heap_two _ _ _) rfl)
   have B1 := after2 d1
   clear d1
   go_wp2_with fail
   refine (check_any b cb h _ (HH.out.below B1) (by omega) (HM.out.below B1)).mono ?_
   rintro e w2 ⟨rfl, d2⟩
   have B2 := after_two B1 d2
   clear d2
   go_wp2_with fail
   go_ret
   exact ⟨ret_bool (sameB_false HN.out).symm, B2⟩
 ·have b2 : Below w.heap.size w ((w.alloc (.cells #[.slice a g.ns.length ca, .int .i64 g.root] 24)).alloc (.cells #[.slice b h.ns.length cb, .int .i64 h.root] 24)) := ((Below.refl _ _).alloc (Nat.le_refl _) _).alloc (by simp) _
  have HM := Tre.hid hm
  have HG := Tre.hid hg
  have t1 := not_ok c0
  have HN : Hid (¬ SameG g h) := fun s => c0 s.okg
  clear hg hh hm c0
  go_enter Tryz.func17, Tryz.ntmps17
  go_wp2_with fail
  refine (check_any a ca g _ (HG.out.below b2) (by omega) (HM.out.below b2)).mono ?_
  rintro e w1 ⟨rfl, d1⟩
  have B1 := after2 d1
  clear d1
  go_wp2_with fail
  go_ret
  exact ⟨ret_bool (sameB_false HN.out).symm, B1⟩
end Go.Proofs.YtoieknnnadgfpaaGreatDoor.gr
