/- graph.Reach at whatever graph. -/
import Derived.Test.YtlkfhbmjemjohaaReach
import Derived.Test.YtlkfhbmjemjohaaMem
namespace Go.Proofs.Ytlkfhbmjemjohaa.gr
open Go.RowKit Go.Shelf Go.Maps Go.Tre lex

theorem own_zero {w : World} {base : Nat} {e : TypeId} {size n : Nat} {v : Value} {xs : List Value} (h : w.ownsRow base e size v n xs) : w.ownsRow 0 e size v n xs := own_base h (Nat.zero_le _)
theorem Mem.of_own {w0 w : World} {e : TypeId} {size n : Nat} {v : Value} {xs : List Value} (h : w.ownsRow w0.heap.size e size v n xs) (b : Below w0.heap.size w0 w) : Mem w0 w [rowR e size v n xs] :=
  ⟨b, fun r hr => by simp at hr; subst hr; exact ⟨own_zero h, fun k hk => (h.lt k hk).1⟩, by simp⟩
set_option maxHeartbeats 1000000 in
theorem reach_any (a : Option Addr) (ca : Nat) (g : Tre.Graph) (w : World) (hg : NodesAt w a g.ns) (wg : g.weight ≤ 2097152) (hm : MaxAt w) :
    Calls Try.prog 27 #[.agg #[.slice a g.ns.length ca, .int .i64 g.root]] w fun e w' =>
      ∃ v, e = .returned v ∧ Mem w w' [rowR 3 1 v g.reachL.length (g.reachL.map rk)] := by
  by_cases c0 : g.checkC = 0
  · exact (callsIn_wide.1 (reach_ok a ca g w hg wg hm c0)).mono fun e w' ⟨v, h1, h2, h3⟩ => ⟨v, h1, Mem.of_own h2 h3⟩
  · have b2 : Below w.heap.size w (w.alloc (.cells #[.slice a g.ns.length ca, .int .i64 g.root] 24)) := (Below.refl _ _).alloc (Nat.le_refl _) _
    have HM := Tre.hid hm
    have HG := Tre.hid hg
    have t1 := not_ok c0
    have HN : Hid (g.reachL = []) := by show _ = _; unfold Graph.reachL; rw [if_neg c0]
    clear hg hm c0
    go_enter Try.func27, Try.ntmps27
    go_wp2_with fail
    refine (check_any a ca g _ (HG.out.below b2) (by omega) (HM.out.below b2)).mono ?_
    rintro e w1 ⟨rfl, d1⟩
    have B1 := after1 d1
    clear d1
    go_wp2_with fail
    go_ret
    refine ⟨_, rfl, ?_⟩
    rw [HN.out]
    exact (Mem.of_below B1).addNil _ _
end Go.Proofs.Ytlkfhbmjemjohaa.gr
