/- The reference's Check. -/
import Derived.Test.YtgngnkajjldnlaaRmay
namespace Go.Proofs.Ytgngnkajjldnlaa.gr
open Go.RowKit Go.Shelf Go.Maps Go.Tre lex

set_option maxRecDepth 100000 in
set_option maxHeartbeats 4000000 in
theorem refCheck (a : Option Addr) (ca : Nat) (g : Tre.Graph) (w : World) (hg : NodesAt w a g.ns) (wg : g.weight ≤ 8388608) :
    Calls Try.prog 19 #[.agg #[.slice a g.ns.length ca, .int .i64 g.root]] w fun e w' => e = .returned (.int .i64 g.checkC) ∧ Below w.heap.size w w' := by
  have M := (Mem.nil w).allocR #[.slice a g.ns.length ca, .int .i64 g.root] 24
  have hgl : g.ns.length ≤ 8388608 := Nat.le_trans (len_weight g) wg
  have HG := Tre.hid hg
  have HM0 := Tre.hid M
  clear hg M
  by_cases hl : (1048576 : Int) < (g.ns.length : Int)
  · have H : Hid (g.checkC = 3) := by show _ = _; unfold Graph.checkC; rw [if_pos (by omega)]
    go_enter Try.func19, Try.ntmps19
    go_wp2_with fail
    go_ret
    exact ⟨ret_int H.out.symm, HM0.out.below⟩
  by_cases hr : g.root < 0
  · have H : Hid (g.checkC = 2) := by show _ = _; unfold Graph.checkC; rw [if_neg (by omega), if_pos (.inl hr)]
    go_enter Try.func19, Try.ntmps19
    go_wp2_with fail
    go_ret
    exact ⟨ret_int H.out.symm, HM0.out.below⟩
  by_cases hr2 : (g.ns.length : Int) ≤ g.root
  · have H : Hid (g.checkC = 2) := by show _ = _; unfold Graph.checkC; rw [if_neg (by omega), if_pos (.inr (.inl hr2))]
    go_enter Try.func19, Try.ntmps19
    go_wp2_with fail
    go_ret
    exact ⟨ret_int H.out.symm, HM0.out.below⟩
  go_enter Try.func19, Try.ntmps19
  go_wp2_with fail
  go_loopw [23] (fun v23 wr => ∃ k : Nat, k ≤ g.ns.length ∧ v23 = .int .i64 k ∧ Hid (∀ j (hj : j < g.ns.length), j < k → mayB g.ns[j] g.ns.length = true) ∧ Hid (Mem w wr [cellsR w.heap.size 24 #[.slice a g.ns.length ca, .int .i64 g.root]])) (fun v23 _ => g.ns.length - (intOf v23).toNat)
  case atStart => exact ⟨0, Nat.zero_le _, rfl, fun j _ h => by omega, HM0.out⟩
  case round =>
    obtain ⟨k, hk, rfl, hrel, hM⟩ := hrel
    by_cases hlt : k < g.ns.length
    · obtain ⟨b, off, rfl, nx⟩ := (HG.out.below hM.out.below).at_ k g.ns[k] (List.getElem?_eq_getElem hlt)
      have hXw : g.ns[k].weight ≤ g.weight := node_weight (List.getElem_mem hlt)
      have HX : Hid (∀ x, g.ns[k] = x → ∀ j (hj : j < g.ns.length), j = k → g.ns[j] = x) := fun x e j hj e' => by subst e'; exact e
      have hmem := List.getElem_mem hlt
      generalize hX : g.ns[k] = X at *
      have HXX := Tre.hid hX
      have HMEM := Tre.hid hmem
      obtain ⟨ax, cx, lx, dx, x0, x1, x2, x3, x4, xA, xL, _, _⟩ := nx
      obtain ⟨g0, g1⟩ := hM.out.two 0 rfl
      have MA := hM.out.allocR #[.int .i64 X.kind, .string X.name, .slice ax X.args.length cx, .slice lx X.labels.length dx, .bool X.isOpen] 33
      obtain ⟨g0', g1'⟩ := MA.two 1 rfl
      have HMA := Tre.hid MA
      have XA := Tre.hid (xA.below ((Below.refl wr.heap.size wr).alloc (Nat.le_refl _) (.cells #[.int .i64 X.kind, .string X.name, .slice ax X.args.length cx, .slice lx X.labels.length dx, .bool X.isOpen] 33)))
      have XL := Tre.hid (xL.below ((Below.refl wr.heap.size wr).alloc (Nat.le_refl _) (.cells #[.int .i64 X.kind, .string X.name, .slice ax X.args.length cx, .slice lx X.labels.length dx, .bool X.isOpen] 33)))
      clear hX hmem xA xL MA
      by_cases hm : mayB X g.ns.length = true
      · have HMM := Tre.hid hm
        clear hm
        go_wp2_with fail
        refine (refMay X g.ns.length ax cx lx dx _ XA.out XL.out (by omega) hgl).mono ?_
        rintro e w2 ⟨rfl, b2⟩
        rw [HMM.out]
        have HM2 := Tre.hid (HMA.out.quiet b2)
        clear b2
        go_wp2_with fail
        go_roundw
        case rel =>
          refine ⟨k + 1, by omega, by go_num, fun j hj hjk => ?_, HM2.out.drop1⟩
          by_cases e : j = k
          · rw [HX.out X rfl j hj e]; exact HMM.out
          · exact hrel.out j hj (by omega)
        case measure => simp [intOf]; omega
      · have hm' : mayB X g.ns.length = false := by simpa using hm
        have HMM := Tre.hid hm'
        have H : Hid (g.checkC = 2) := by
          show _ = _
          unfold Graph.checkC
          rw [if_neg (by omega), if_pos (.inr (.inr (List.any_eq_true.2 ⟨X, HMEM.out, by rw [HMM.out]; rfl⟩)))]
        clear hm hm'
        go_wp2_with fail
        refine (refMay X g.ns.length ax cx lx dx _ XA.out XL.out (by omega) hgl).mono ?_
        rintro e w2 ⟨rfl, b2⟩
        rw [HMM.out]
        have HM2 := Tre.hid (HMA.out.quiet b2)
        clear b2
        go_wp2_with fail
        go_ret
        exact ⟨ret_int H.out.symm, HM2.out.below⟩
    · have H : Hid (g.checkC = 0) := by
        show _ = _
        unfold Graph.checkC
        rw [if_neg (by omega), if_neg]
        rintro (h | h | h)
        · omega
        · omega
        · obtain ⟨x, hx, e⟩ := List.any_eq_true.1 h
          obtain ⟨j, hj, rfl⟩ := List.getElem_of_mem hx
          rw [hrel.out j hj (by omega)] at e
          cases e
      go_wp2_with fail
      go_ret
      exact ⟨ret_int H.out.symm, hM.out.below⟩
end Go.Proofs.Ytgngnkajjldnlaa.gr
