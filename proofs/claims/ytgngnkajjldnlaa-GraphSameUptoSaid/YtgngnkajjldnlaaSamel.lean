/- GraphSame: the walk. -/
import Derived.Test.YtgngnkajjldnlaaAlive
import Derived.Test.YtgngnkajjldnlaaRsame
import Derived.Test.YtgngnkajjldnlaaRegl
namespace Go.Proofs.Ytgngnkajjldnlaa.gr
open Go.RowKit Go.Shelf Go.Maps Go.Tre lex

set_option maxRecDepth 100000 in
set_option maxHeartbeats 4000000 in
theorem refSame_any (a b : Option Addr) (ca cb : Nat) (g h : Tre.Graph) (w : World) (hg : NodesAt w a g.ns) (hh : NodesAt w b h.ns) (wg : g.weight ≤ 2097152) (wh : h.weight ≤ 2097152) :
    Calls Try.prog 12 #[.agg #[.slice a g.ns.length ca, .int .i64 g.root], .agg #[.slice b h.ns.length cb, .int .i64 h.root]] w fun e w' => e = .returned (.bool (sameB g h)) ∧ Below w.heap.size w w' := by
  by_cases c0 : g.checkC = 0
  · by_cases c1 : h.checkC = 0
    · exact refSame_ok a b ca cb g h w hg hh wg wh c0 c1
    · have M := ((Mem.nil w).allocR #[.slice a g.ns.length ca, .int .i64 g.root] 24).allocR #[.slice b h.ns.length cb, .int .i64 h.root] 24
      rw [show (w.alloc (.cells #[.slice a g.ns.length ca, .int .i64 g.root] 24)).heap.size = w.heap.size + 1 by simp] at M
      have HG := Tre.hid hg
      have HH := Tre.hid hh
      have HM0 := Tre.hid M
      have HN : Hid (¬ SameG g h) := fun s => c1 s.okh
      have u0 : (g.checkC != 0) = false := by rw [c0]; rfl
      have u1 := not_ok c1
      clear hg hh M c0 c1
      go_enter Try.func12, Try.ntmps12
      go_wp2_with fail
      refine (refCheck a ca g _ (HG.out.below HM0.out.below) (by omega)).mono ?_
      rintro e w1 ⟨rfl, b1⟩
      have M1 := HM0.out.quiet b1
      obtain ⟨h0, h1⟩ := M1.two 0 rfl
      have HM1 := Tre.hid M1
      clear M1 b1
      go_wp2_with fail
      refine (refCheck b cb h _ (HH.out.below HM1.out.below) (by omega)).mono ?_
      rintro e w2 ⟨rfl, b2⟩
      have HM2 := Tre.hid (HM1.out.quiet b2)
      clear b2
      go_wp2_with fail
      go_ret
      exact ⟨ret_bool (sameB_false HN.out).symm, HM2.out.below⟩
  · have M := ((Mem.nil w).allocR #[.slice a g.ns.length ca, .int .i64 g.root] 24).allocR #[.slice b h.ns.length cb, .int .i64 h.root] 24
    rw [show (w.alloc (.cells #[.slice a g.ns.length ca, .int .i64 g.root] 24)).heap.size = w.heap.size + 1 by simp] at M
    have HG := Tre.hid hg
    have HM0 := Tre.hid M
    have HN : Hid (¬ SameG g h) := fun s => c0 s.okg
    have u0 := not_ok c0
    clear hg hh M c0
    go_enter Try.func12, Try.ntmps12
    go_wp2_with fail
    refine (refCheck a ca g _ (HG.out.below HM0.out.below) (by omega)).mono ?_
    rintro e w1 ⟨rfl, b1⟩
    have HM1 := Tre.hid (HM0.out.quiet b1)
    clear b1
    go_wp2_with fail
    go_ret
    exact ⟨ret_bool (sameB_false HN.out).symm, HM1.out.below⟩

set_option maxRecDepth 100000 in
set_option maxHeartbeats 8000000 in
theorem sameLaw (a b : Option Addr) (ca cb : Nat) (g h : Tre.Graph) (w : World) (hg : NodesAt w a g.ns) (hh : NodesAt w b h.ns) (wg : g.weight ≤ 2097152) (wh : h.weight ≤ 2097152) (hm : MaxAt w) :
    Calls Try.prog 3 #[.agg #[.slice a g.ns.length ca, .int .i64 g.root], .agg #[.slice b h.ns.length cb, .int .i64 h.root]] w fun e w' => e = .returned (.bool true) ∧ Below w.heap.size w w' := by
  have M := ((Mem.nil w).allocR #[.slice a g.ns.length ca, .int .i64 g.root] 24).allocR #[.slice b h.ns.length cb, .int .i64 h.root] 24
  simp only [heapSize_alloc] at M
  have HM := Tre.hid hm
  have HG := Tre.hid hg
  have HH := Tre.hid hh
  have HM0 := Tre.hid M
  clear hm hg hh M
  go_enter Try.func3, Try.ntmps3
  go_wp2_with fail
  refine (alive_any _ (HM.out.below HM0.out.below)).mono ?_
  rintro e w1 ⟨rfl, b1⟩
  have M1 := HM0.out.quiet b1
  obtain ⟨g0, g1⟩ := M1.two 1 rfl
  obtain ⟨h0, h1⟩ := M1.two 0 rfl
  have HM1 := Tre.hid M1
  clear M1 b1
  go_wp2_with fail
  refine (great.great a ca g _ (by omega) (HG.out.below HM1.out.below)).mono ?_
  rintro e w2 ⟨rfl, b2⟩
  clear g0 g1 h0 h1
  have M2 := HM1.out.quiet b2
  obtain ⟨g0, g1⟩ := M2.two 1 rfl
  obtain ⟨h0, h1⟩ := M2.two 0 rfl
  have HM2 := Tre.hid M2
  clear M2 b2
  by_cases t2 : (150 : Int) < g.great
  · go_wp2_with fail
    go_ret
    exact ⟨rfl, HM2.out.below⟩
  go_wp2_with fail
  refine (great.great b cb h _ (by omega) (HH.out.below HM2.out.below)).mono ?_
  rintro e w3 ⟨rfl, b3⟩
  clear g0 g1 h0 h1
  have M3 := HM2.out.quiet b3
  obtain ⟨g0, g1⟩ := M3.two 1 rfl
  obtain ⟨h0, h1⟩ := M3.two 0 rfl
  have HM3 := Tre.hid M3
  clear M3 b3
  by_cases t3 : (150 : Int) < h.great
  · go_wp2_with fail
    go_ret
    exact ⟨rfl, HM3.out.below⟩
  go_wp2_with fail
  have e_p : (sameB g h == sameB g h) = true := by simp
  have BB := Tre.hid HM3.out.below
  refine wp_region_held_drew (S := (fun w' => Below w3.heap.size w3 w' ∧ w'.cell? ⟨w.heap.size, 0, none⟩ = some (.slice a g.ns.length ca) ∧ w'.cell? ⟨w.heap.size, 1, none⟩ = some (.int .i64 g.root) ∧ w'.cell? ⟨w.heap.size + 1, 0, none⟩ = some (.slice b h.ns.length cb) ∧ w'.cell? ⟨w.heap.size + 1, 1, none⟩ = some (.int .i64 h.root))) (by kernel_rfl) ?_ (fun hH0 => ?_)
  · exact ⟨(Below.refl _ _).drew, g0, g1, h0, h1⟩
  refine hTake (i := 0) (some 15) (v := ?_) (by rfl) (by kernel_rfl) (by kernel_rfl) (by kernel_rfl) (fun _ _ _ h => h) (by rfl) ?_ hH0 ?_
  rotate_left
  · intro w hSw; (try dsimp only at hSw); simp only [List.getElem?_toArray, List.getElem?_cons_zero, Option.map_some, Option.some.injEq]; (first | (go_simp; done) | (go_simp; with_reducible rfl))
  try simp only [Act.put, List.setIfInBounds_toArray, List.set_cons_zero, List.set_cons_succ]
  refine hTake (i := 1) (some 16) (v := ?_) (by rfl) (by kernel_rfl) (by kernel_rfl) (by kernel_rfl) (fun _ _ _ h => h) (by rfl) ?_ hH0 ?_
  rotate_left
  · intro w hSw; (try dsimp only at hSw); simp only [List.getElem?_toArray, List.getElem?_cons_succ, List.getElem?_cons_zero, Option.map_some, Option.some.injEq]; (first | (go_simp; done) | (go_simp; with_reducible rfl))
  try simp only [Act.put, List.setIfInBounds_toArray, List.set_cons_zero, List.set_cons_succ]
  refine hTake (i := 3) (some 18) (v := ?_) (by rfl) (by kernel_rfl) (by kernel_rfl) (by kernel_rfl) (fun _ _ _ h => h) (by rfl) ?_ hH0 ?_
  rotate_left
  · intro w hSw; (try dsimp only at hSw); simp only [List.getElem?_toArray, List.getElem?_cons_succ, List.getElem?_cons_zero, Option.map_some, Option.some.injEq]; (first | (go_simp; done) | (go_simp; with_reducible rfl))
  try simp only [Act.put, List.setIfInBounds_toArray, List.set_cons_zero, List.set_cons_succ]
  refine hTake (i := 4) (some 19) (v := ?_) (by rfl) (by kernel_rfl) (by kernel_rfl) (by kernel_rfl) (fun _ _ _ h => h) (by rfl) ?_ hH0 ?_
  rotate_left
  · intro w hSw; (try dsimp only at hSw); simp only [List.getElem?_toArray, List.getElem?_cons_succ, List.getElem?_cons_zero, Option.map_some, Option.some.injEq]; (first | (go_simp; done) | (go_simp; with_reducible rfl))
  try simp only [Act.put, List.setIfInBounds_toArray, List.set_cons_zero, List.set_cons_succ]
  refine hOne 2 (by kernel_rfl) (fun K hK => ?_)
  go_simp
  refine (same_any a b ca cb g h _ (HG.out.below (BB.out.trans (hH0.1.mono BB.out.size))) (HH.out.below (BB.out.trans (hH0.1.mono BB.out.size))) (by omega) (by omega) (HM.out.below (BB.out.trans (hH0.1.mono BB.out.size)))).mono ?_
  rintro e w9 ⟨rfl, c9⟩
  (try dsimp only)
  refine hK.out _ _ ?_ (fun hH1 => ?_)
  · exact ⟨hH0.1.trans (c9.mono hH0.1.size), cell_below c9 hH0.2.1, cell_below c9 hH0.2.2.1, cell_below c9 hH0.2.2.2.1, cell_below c9 hH0.2.2.2.2⟩
  clear hK K hH0
  try simp only [Act.put, List.setIfInBounds_toArray, List.set_cons_zero, List.set_cons_succ]
  refine hOne 5 (by kernel_rfl) (fun K hK => ?_)
  go_simp
  refine (refSame_any a b ca cb g h _ (HG.out.below (BB.out.trans (hH1.1.mono BB.out.size))) (HH.out.below (BB.out.trans (hH1.1.mono BB.out.size))) (by omega) (by omega)).mono ?_
  rintro e w9 ⟨rfl, c9⟩
  (try dsimp only)
  refine hK.out _ _ ?_ (fun hH2 => ?_)
  · exact ⟨hH1.1.trans (c9.mono hH1.1.size), cell_below c9 hH1.2.1, cell_below c9 hH1.2.2.1, cell_below c9 hH1.2.2.2.1, cell_below c9 hH1.2.2.2.2⟩
  clear hK K hH1
  try simp only [Act.put, List.setIfInBounds_toArray, List.set_cons_zero, List.set_cons_succ]
  refine hTake (i := 6) (some 21) (v := ?_) (by rfl) (by kernel_rfl) (by kernel_rfl) (by kernel_rfl) (fun _ _ _ h => h) (by rfl) ?_ hH2 ?_
  rotate_left
  · intro w hSw; (try dsimp only at hSw); simp only [List.getElem?_toArray, List.getElem?_cons_succ, List.getElem?_cons_zero, Option.map_some, Option.some.injEq]; (first | (go_simp; done) | (go_simp; with_reducible rfl))
  try simp only [Act.put, List.setIfInBounds_toArray, List.set_cons_zero, List.set_cons_succ]
  refine hTake (i := 7) (some 4) (v := ?_) (by rfl) (by kernel_rfl) (by kernel_rfl) (by kernel_rfl) (fun _ _ _ h => h) (by rfl) ?_ hH2 ?_
  rotate_left
  · intro w hSw; (try dsimp only at hSw); simp only [List.getElem?_toArray, List.getElem?_cons_succ, List.getElem?_cons_zero, Option.map_some, Option.some.injEq]; (first | (go_simp; done) | (go_simp; with_reducible rfl))
  try simp only [Act.put, List.setIfInBounds_toArray, List.set_cons_zero, List.set_cons_succ]
  refine wpAnyH_done (by kernel_rfl) ?_ _
  have HB2 := Tre.hid hH2.1
  clear hH2
  go_wp2_with fail
  go_ret
  exact ⟨rfl, BB.out.trans (HB2.out.mono BB.out.size)⟩
end Go.Proofs.Ytgngnkajjldnlaa.gr
