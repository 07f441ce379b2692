/- GraphTrims: the walk. -/
import Derived.Test.YtgngnkajjldnlaaAlive
import Derived.Test.YtgngnkajjldnlaaTrimp
import Derived.Test.YtgngnkajjldnlaaRefe
import Derived.Test.YtgngnkajjldnlaaNodv
import Derived.Test.YtgngnkajjldnlaaRegl
namespace Go.Proofs.Ytgngnkajjldnlaa.gr
open Go.RowKit Go.Shelf Go.Maps Go.Tre lex

set_option maxRecDepth 100000 in
set_option maxHeartbeats 8000000 in
theorem trimLaw (a b : Option Addr) (ca cb : Nat) (g h : Tre.Graph) (w : World) (hg : NodesAt w a g.ns) (hh : NodesAt w b h.ns) (wg : g.weight ≤ 2097152) (wh : h.weight ≤ 2097152) (hm : MaxAt w) :
    Calls Try.prog 7 #[.agg #[.slice a g.ns.length ca, .int .i64 g.root], .agg #[.slice b h.ns.length cb, .int .i64 h.root]] w fun e w' => e = .returned (.bool true) ∧ Below w.heap.size w w' := by
  have M := ((Mem.nil w).allocR #[.slice a g.ns.length ca, .int .i64 g.root] 24).allocR #[.slice b h.ns.length cb, .int .i64 h.root] 24
  simp only [heapSize_alloc] at M
  have HM := Tre.hid hm
  have HG := Tre.hid hg
  have HH := Tre.hid hh
  have HM0 := Tre.hid M
  clear hm hg hh M
  go_enter Try.func7, Try.ntmps7
  go_wp2_with fail
  refine (alive_any _ (HM.out.below HM0.out.below)).mono ?_
  rintro e w1 ⟨rfl, b1⟩
  have M1 := HM0.out.quiet b1
  obtain ⟨g0, g1⟩ := M1.two 1 rfl
  obtain ⟨h0, h1⟩ := M1.two 0 rfl
  have HM1 := Tre.hid M1
  clear M1 b1
  go_wp2_with fail
  refine (great.great a ca g _ (by omega) (HG.out.below HM1.out.below)).mono ?_
  rintro e w2 ⟨rfl, b2⟩
  clear g0 g1 h0 h1
  have M2 := HM1.out.quiet b2
  obtain ⟨g0, g1⟩ := M2.two 1 rfl
  obtain ⟨h0, h1⟩ := M2.two 0 rfl
  have HM2 := Tre.hid M2
  clear M2 b2
  by_cases t2 : (500 : Int) < g.great
  · have t := t2
    go_wp2_with fail
    go_ret
    exact ⟨rfl, HM2.out.below⟩
  go_wp2_with fail
  refine (great.great b cb h _ (by omega) (HH.out.below HM2.out.below)).mono ?_
  rintro e w3 ⟨rfl, b3⟩
  clear g0 g1 h0 h1
  have M3 := HM2.out.quiet b3
  obtain ⟨g0, g1⟩ := M3.two 1 rfl
  obtain ⟨h0, h1⟩ := M3.two 0 rfl
  have HM3 := Tre.hid M3
  clear M3 b3
  by_cases t3 : (500 : Int) < h.great
  · have t := t3
    go_wp2_with fail
    go_ret
    exact ⟨rfl, HM3.out.below⟩
  go_wp2_with fail
  refine (check_any a ca g _ (HG.out.below HM3.out.below) (by omega) (HM.out.below HM3.out.below)).mono ?_
  rintro e w4 ⟨rfl, b4⟩
  clear g0 g1 h0 h1
  have M4 := HM3.out.quiet b4
  obtain ⟨g0, g1⟩ := M4.two 1 rfl
  obtain ⟨h0, h1⟩ := M4.two 0 rfl
  have HM4 := Tre.hid M4
  clear M4 b4
  by_cases t4 : g.checkC ≠ 0
  · have t := not_ok t4
    go_wp2_with fail
    go_ret
    exact ⟨rfl, HM4.out.below⟩
  have cg : g.checkC = 0 := by omega
  have Cg := Tre.hid cg
  have u4 : (g.checkC != 0) = false := by rw [cg]; rfl
  clear cg t4
  go_wp2_with fail
  refine (check_any b cb h _ (HH.out.below HM4.out.below) (by omega) (HM.out.below HM4.out.below)).mono ?_
  rintro e w5 ⟨rfl, b5⟩
  clear g0 g1 h0 h1
  have M5 := HM4.out.quiet b5
  obtain ⟨g0, g1⟩ := M5.two 1 rfl
  obtain ⟨h0, h1⟩ := M5.two 0 rfl
  have HM5 := Tre.hid M5
  clear M5 b5
  by_cases t5 : h.checkC ≠ 0
  · have t := not_ok t5
    go_wp2_with fail
    go_ret
    exact ⟨rfl, HM5.out.below⟩
  have ch : h.checkC = 0 := by omega
  have Ch := Tre.hid ch
  have u5 : (h.checkC != 0) = false := by rw [ch]; rfl
  clear ch t5
  go_wp2_with fail
  refine (trim_any a ca g _ (HG.out.below HM5.out.below) (by omega) (HM.out.below HM5.out.below)).mono ?_
  rintro e w6 ⟨v6, ds, rfl, hds, m6⟩
  have M6 := HM5.out.call m6
  obtain ⟨a5, c5, rfl, _⟩ := M6.val 0 rfl
  have hl : ds.length = g.trim.ns.length := by have := congrArg List.length hds; simpa using this
  have M7 := M6.allocR #[.slice a5 ds.length c5, .int .i64 0] 24
  have N6 : NodesAt (w6.alloc (.cells #[.slice a5 ds.length c5, .int .i64 0] 24)) a5 g.trim.ns := by
    have := nodes_read (M7.at_ 1 rfl) (M7.at_ 2 rfl)
    rw [hds] at this
    exact this
  obtain ⟨g0', g1'⟩ := M7.two 4 rfl
  obtain ⟨h0', h1'⟩ := M7.two 3 rfl
  obtain ⟨t0, t1⟩ := M7.two 0 rfl
  rw [hl] at t0 t1 N6 g0' g1' h0' h1' ⊢
  have BB := Tre.hid M7.below
  rw [hl] at BB
  have HN6 := Tre.hid N6
  have WT : g.trim.weight ≤ 2097152 := Nat.le_trans g.trim_weight wg
  have e_l : ((g.trim.ns.length : Int) == (g.reachL.length : Int)) = true := by rw [trim_len]; simp
  have e_p : (sameB g h == sameB g h) = true := by simp
  have S1 : Hid (sameB g g.trim = true) := sameB_iff.2 (trim_same Cg.out)
  have S2 : Hid (sameB g.trim g = true) := sameB_iff.2 (trim_same Cg.out).symm
  have S3 : Hid (sameB g g = true) := sameB_iff.2 (SameG.refl Cg.out)
  have TT := Tre.hid (trim_trim Cg.out)
  obtain ⟨wr, hwr⟩ : ∃ wr : World, wr = w6.alloc (.cells #[.slice a5 g.trim.ns.length c5, .int .i64 0] 24) := ⟨_, rfl⟩
  have HL := Tre.hid hl
  clear hds m6 M6 M7 N6 g0 g1 h0 h1 hl
  go_wp2_with fail
  rw [← hwr] at g0' g1' h0' h1' t0 t1 BB HN6 ⊢
  clear hwr
  refine wp_region_held_drew (S := (fun w' => Below wr.heap.size wr w' ∧ w'.cell? ⟨w.heap.size, 0, none⟩ = some (.slice a g.ns.length ca) ∧ w'.cell? ⟨w.heap.size, 1, none⟩ = some (.int .i64 g.root) ∧ w'.cell? ⟨w.heap.size + 1, 0, none⟩ = some (.slice b h.ns.length cb) ∧ w'.cell? ⟨w.heap.size + 1, 1, none⟩ = some (.int .i64 h.root) ∧ w'.cell? ⟨w6.heap.size, 0, none⟩ = some (.slice a5 g.trim.ns.length c5) ∧ w'.cell? ⟨w6.heap.size, 1, none⟩ = some (.int .i64 0))) (by kernel_rfl) ?_ (fun hH0 => ?_)
  · exact ⟨(Below.refl _ _).drew, g0', g1', h0', h1', t0, t1⟩
  refine hTake (i := 0) (some 28) (v := ?_) (by rfl) (by kernel_rfl) (by kernel_rfl) (by kernel_rfl) (fun _ _ _ h => h) (by rfl) ?_ hH0 ?_
  rotate_left
  · intro w hSw; (try dsimp only at hSw); simp only [List.getElem?_toArray, List.getElem?_cons_zero, Option.map_some, Option.some.injEq]; (first | (go_simp; done) | (go_simp; with_reducible rfl))
  try simp only [Act.put, List.setIfInBounds_toArray, List.set_cons_zero, List.set_cons_succ]
  refine hTake (i := 1) (some 29) (v := ?_) (by rfl) (by kernel_rfl) (by kernel_rfl) (by kernel_rfl) (fun _ _ _ h => h) (by rfl) ?_ hH0 ?_
  rotate_left
  · intro w hSw; (try dsimp only at hSw); simp only [List.getElem?_toArray, List.getElem?_cons_succ, List.getElem?_cons_zero, Option.map_some, Option.some.injEq]; (first | (go_simp; done) | (go_simp; with_reducible rfl))
  try simp only [Act.put, List.setIfInBounds_toArray, List.set_cons_zero, List.set_cons_succ]
  refine hOne 2 (by kernel_rfl) (fun K hK => ?_)
  go_simp
  refine (same_any a a5 ca c5 g g.trim _ (HG.out.below (BB.out.trans (hH0.1.mono BB.out.size))) (HN6.out.below hH0.1) (by omega) (by omega) (HM.out.below (BB.out.trans (hH0.1.mono BB.out.size)))).mono ?_
  rintro e w9 ⟨rfl, c9⟩
  rw [S1.out]
  (try dsimp only)
  refine hK.out _ _ ?_ (fun hH1 => ?_)
  · exact ⟨hH0.1.trans (c9.mono hH0.1.size), cell_below c9 hH0.2.1, cell_below c9 hH0.2.2.1, cell_below c9 hH0.2.2.2.1, cell_below c9 hH0.2.2.2.2.1, cell_below c9 hH0.2.2.2.2.2.1, cell_below c9 hH0.2.2.2.2.2.2⟩
  clear hK K hH0
  try simp only [Act.put, List.setIfInBounds_toArray, List.set_cons_zero, List.set_cons_succ]
  refine hTake (i := 3) (some 31) (v := ?_) (by rfl) (by kernel_rfl) (by kernel_rfl) (by kernel_rfl) (fun _ _ _ h => h) (by rfl) ?_ hH1 ?_
  rotate_left
  · intro w hSw; (try dsimp only at hSw); simp only [List.getElem?_toArray, List.getElem?_cons_succ, List.getElem?_cons_zero, Option.map_some, Option.some.injEq]; (first | (go_simp; done) | (go_simp; with_reducible rfl))
  try simp only [Act.put, List.setIfInBounds_toArray, List.set_cons_zero, List.set_cons_succ]
  refine hTake (i := 4) (some 32) (v := ?_) (by rfl) (by kernel_rfl) (by kernel_rfl) (by kernel_rfl) (fun _ _ _ h => h) (by rfl) ?_ hH1 ?_
  rotate_left
  · intro w hSw; (try dsimp only at hSw); simp only [List.getElem?_toArray, List.getElem?_cons_succ, List.getElem?_cons_zero, Option.map_some, Option.some.injEq]; (first | (go_simp; done) | (go_simp; with_reducible rfl))
  try simp only [Act.put, List.setIfInBounds_toArray, List.set_cons_zero, List.set_cons_succ]
  refine hTake (i := 5) (some 33) (v := ?_) (by rfl) (by kernel_rfl) (by kernel_rfl) (by kernel_rfl) (fun _ _ _ h => h) (by rfl) ?_ hH1 ?_
  rotate_left
  · intro w hSw; (try dsimp only at hSw); simp only [List.getElem?_toArray, List.getElem?_cons_succ, List.getElem?_cons_zero, Option.map_some, Option.some.injEq]; (first | (go_simp; done) | (go_simp; with_reducible rfl))
  try simp only [Act.put, List.setIfInBounds_toArray, List.set_cons_zero, List.set_cons_succ]
  refine hOne 6 (by kernel_rfl) (fun K hK => ?_)
  go_simp
  refine (same_any a5 a c5 ca g.trim g _ (HN6.out.below hH1.1) (HG.out.below (BB.out.trans (hH1.1.mono BB.out.size))) (by omega) (by omega) (HM.out.below (BB.out.trans (hH1.1.mono BB.out.size)))).mono ?_
  rintro e w9 ⟨rfl, c9⟩
  rw [S2.out]
  (try dsimp only)
  refine hK.out _ _ ?_ (fun hH2 => ?_)
  · exact ⟨hH1.1.trans (c9.mono hH1.1.size), cell_below c9 hH1.2.1, cell_below c9 hH1.2.2.1, cell_below c9 hH1.2.2.2.1, cell_below c9 hH1.2.2.2.2.1, cell_below c9 hH1.2.2.2.2.2.1, cell_below c9 hH1.2.2.2.2.2.2⟩
  clear hK K hH1
  try simp only [Act.put, List.setIfInBounds_toArray, List.set_cons_zero, List.set_cons_succ]
  refine hTake (i := 7) (some 35) (v := ?_) (by rfl) (by kernel_rfl) (by kernel_rfl) (by kernel_rfl) (fun _ _ _ h => h) (by rfl) ?_ hH2 ?_
  rotate_left
  · intro w hSw; (try dsimp only at hSw); simp only [List.getElem?_toArray, List.getElem?_cons_succ, List.getElem?_cons_zero, Option.map_some, Option.some.injEq]; (first | (go_simp; done) | (go_simp; with_reducible rfl))
  try simp only [Act.put, List.setIfInBounds_toArray, List.set_cons_zero, List.set_cons_succ]
  refine hTake (i := 8) (some 36) (v := ?_) (by rfl) (by kernel_rfl) (by kernel_rfl) (by kernel_rfl) (fun _ _ _ h => h) (by rfl) ?_ hH2 ?_
  rotate_left
  · intro w hSw; (try dsimp only at hSw); simp only [List.getElem?_toArray, List.getElem?_cons_succ, List.getElem?_cons_zero, Option.map_some, Option.some.injEq]; (first | (go_simp; done) | (go_simp; with_reducible rfl))
  try simp only [Act.put, List.setIfInBounds_toArray, List.set_cons_zero, List.set_cons_succ]
  refine hTake (i := 9) (some 37) (v := ?_) (by rfl) (by kernel_rfl) (by kernel_rfl) (by kernel_rfl) (fun _ _ _ h => h) (by rfl) ?_ hH2 ?_
  rotate_left
  · intro w hSw; (try dsimp only at hSw); simp only [List.getElem?_toArray, List.getElem?_cons_succ, List.getElem?_cons_zero, Option.map_some, Option.some.injEq]; (first | (go_simp; done) | (go_simp; with_reducible rfl))
  try simp only [Act.put, List.setIfInBounds_toArray, List.set_cons_zero, List.set_cons_succ]
  refine hTake (i := 11) (some 39) (v := ?_) (by rfl) (by kernel_rfl) (by kernel_rfl) (by kernel_rfl) (fun _ _ _ h => h) (by rfl) ?_ hH2 ?_
  rotate_left
  · intro w hSw; (try dsimp only at hSw); simp only [List.getElem?_toArray, List.getElem?_cons_succ, List.getElem?_cons_zero, Option.map_some, Option.some.injEq]; (first | (go_simp; done) | (go_simp; with_reducible rfl))
  try simp only [Act.put, List.setIfInBounds_toArray, List.set_cons_zero, List.set_cons_succ]
  refine hOne 10 (by kernel_rfl) (fun K hK => ?_)
  go_simp
  refine (trim_any a5 c5 g.trim _ (HN6.out.below hH2.1) (by omega) (HM.out.below (BB.out.trans (hH2.1.mono BB.out.size)))).mono ?_
  rintro e w10 ⟨v2, ds2, rfl, hd2, m2⟩
  obtain ⟨a2, c2, rfl, _⟩ := m2.val 0 rfl
  have c9 := m2.below
  rw [TT.out] at hd2
  have hl2 : ds2.length = g.trim.ns.length := by have := congrArg List.length hd2; simpa using this
  have N2 := nodes_read (m2.at_ 0 rfl) (m2.at_ 1 rfl)
  rw [hd2] at N2
  have HN2 := Tre.hid N2
  have HL2 := Tre.hid hl2
  rw [HL2.out]
  clear m2 hd2 hl2 N2
  (try dsimp only)
  refine hK.out _ _ ?_ (fun hH3 => ?_)
  · exact ⟨hH2.1.trans (c9.mono hH2.1.size), cell_below c9 hH2.2.1, cell_below c9 hH2.2.2.1, cell_below c9 hH2.2.2.2.1, cell_below c9 hH2.2.2.2.2.1, cell_below c9 hH2.2.2.2.2.2.1, cell_below c9 hH2.2.2.2.2.2.2⟩
  clear hK K hH2
  try simp only [Act.put, List.setIfInBounds_toArray, List.set_cons_zero, List.set_cons_succ]
  refine hOne 12 (by kernel_rfl) (fun K hK => ?_)
  go_simp
  refine (refEqual a2 a5 c2 c5 g.trim g.trim _ HN2.out (HN6.out.below hH3.1) (by omega) (by omega)).mono ?_
  rintro e w9 ⟨rfl, c9⟩
  rw [show decide (g.trim = g.trim) = true from decide_eq_true rfl]
  (try dsimp only)
  refine hK.out _ _ ?_ (fun hH4 => ?_)
  · exact ⟨hH3.1.trans (c9.mono hH3.1.size), cell_below c9 hH3.2.1, cell_below c9 hH3.2.2.1, cell_below c9 hH3.2.2.2.1, cell_below c9 hH3.2.2.2.2.1, cell_below c9 hH3.2.2.2.2.2.1, cell_below c9 hH3.2.2.2.2.2.2⟩
  clear hK K hH3
  try simp only [Act.put, List.setIfInBounds_toArray, List.set_cons_zero, List.set_cons_succ]
  refine hTake (i := 13) (some 41) (v := ?_) (by rfl) (by kernel_rfl) (by kernel_rfl) (by kernel_rfl) (fun _ _ _ h => h) (by rfl) ?_ hH4 ?_
  rotate_left
  · intro w hSw; (try dsimp only at hSw); simp only [List.getElem?_toArray, List.getElem?_cons_succ, List.getElem?_cons_zero, Option.map_some, Option.some.injEq]; (first | (go_simp; done) | (go_simp; with_reducible rfl))
  try simp only [Act.put, List.setIfInBounds_toArray, List.set_cons_zero, List.set_cons_succ]
  refine hTake (i := 14) (some 42) (v := ?_) (by rfl) (by kernel_rfl) (by kernel_rfl) (by kernel_rfl) (fun _ _ _ h => h) (by rfl) ?_ hH4 ?_
  rotate_left
  · intro w hSw; (try dsimp only at hSw); simp only [List.getElem?_toArray, List.getElem?_cons_succ, List.getElem?_cons_zero, Option.map_some, Option.some.injEq]; (first | (go_simp; done) | (go_simp; with_reducible rfl))
  try simp only [Act.put, List.setIfInBounds_toArray, List.set_cons_zero, List.set_cons_succ]
  refine hTake (i := 15) (some 43) (v := ?_) (by rfl) (by kernel_rfl) (by kernel_rfl) (by kernel_rfl) (fun _ _ _ h => h) (by rfl) ?_ hH4 ?_
  rotate_left
  · intro w hSw; (try dsimp only at hSw); simp only [List.getElem?_toArray, List.getElem?_cons_succ, List.getElem?_cons_zero, Option.map_some, Option.some.injEq]; (first | (go_simp; done) | (go_simp; with_reducible rfl))
  try simp only [Act.put, List.setIfInBounds_toArray, List.set_cons_zero, List.set_cons_succ]
  refine hTake (i := 16) (some 44) (v := ?_) (by rfl) (by kernel_rfl) (by kernel_rfl) (by kernel_rfl) (fun _ _ _ h => h) (by rfl) ?_ hH4 ?_
  rotate_left
  · intro w hSw; (try dsimp only at hSw); simp only [List.getElem?_toArray, List.getElem?_cons_succ, List.getElem?_cons_zero, Option.map_some, Option.some.injEq]; (first | (go_simp; done) | (go_simp; with_reducible rfl))
  try simp only [Act.put, List.setIfInBounds_toArray, List.set_cons_zero, List.set_cons_succ]
  refine hTake (i := 17) (some 45) (v := ?_) (by rfl) (by kernel_rfl) (by kernel_rfl) (by kernel_rfl) (fun _ _ _ h => h) (by rfl) ?_ hH4 ?_
  rotate_left
  · intro w hSw; (try dsimp only at hSw); simp only [List.getElem?_toArray, List.getElem?_cons_succ, List.getElem?_cons_zero, Option.map_some, Option.some.injEq]; (first | (go_simp; done) | (go_simp; with_reducible rfl))
  try simp only [Act.put, List.setIfInBounds_toArray, List.set_cons_zero, List.set_cons_succ]
  refine hTake (i := 18) (some 46) (v := ?_) (by rfl) (by kernel_rfl) (by kernel_rfl) (by kernel_rfl) (fun _ _ _ h => h) (by rfl) ?_ hH4 ?_
  rotate_left
  · intro w hSw; (try dsimp only at hSw); simp only [List.getElem?_toArray, List.getElem?_cons_succ, List.getElem?_cons_zero, Option.map_some, Option.some.injEq]; (first | (go_simp; done) | (go_simp; with_reducible rfl))
  try simp only [Act.put, List.setIfInBounds_toArray, List.set_cons_zero, List.set_cons_succ]
  refine hTake (i := 19) (some 47) (v := ?_) (by rfl) (by kernel_rfl) (by kernel_rfl) (by kernel_rfl) (fun _ _ _ h => h) (by rfl) ?_ hH4 ?_
  rotate_left
  · intro w hSw; (try dsimp only at hSw); simp only [List.getElem?_toArray, List.getElem?_cons_succ, List.getElem?_cons_zero, Option.map_some, Option.some.injEq]; (first | (go_simp; done) | (go_simp; with_reducible rfl))
  try simp only [Act.put, List.setIfInBounds_toArray, List.set_cons_zero, List.set_cons_succ]
  refine hTake (i := 20) (some 48) (v := ?_) (by rfl) (by kernel_rfl) (by kernel_rfl) (by kernel_rfl) (fun _ _ _ h => h) (by rfl) ?_ hH4 ?_
  rotate_left
  · intro w hSw; (try dsimp only at hSw); simp only [List.getElem?_toArray, List.getElem?_cons_succ, List.getElem?_cons_zero, Option.map_some, Option.some.injEq]; (first | (go_simp; done) | (go_simp; with_reducible rfl))
  try simp only [Act.put, List.setIfInBounds_toArray, List.set_cons_zero, List.set_cons_succ]
  refine hTake (i := 21) (some 49) (v := ?_) (by rfl) (by kernel_rfl) (by kernel_rfl) (by kernel_rfl) (fun _ _ _ h => h) (by rfl) ?_ hH4 ?_
  rotate_left
  · intro w hSw; (try dsimp only at hSw); simp only [List.getElem?_toArray, List.getElem?_cons_succ, List.getElem?_cons_zero, Option.map_some, Option.some.injEq]; (first | (go_simp; done) | (go_simp; with_reducible rfl))
  try simp only [Act.put, List.setIfInBounds_toArray, List.set_cons_zero, List.set_cons_succ]
  refine hTake (i := 22) (some 50) (v := ?_) (by rfl) (by kernel_rfl) (by kernel_rfl) (by kernel_rfl) (fun _ _ _ h => h) (by rfl) ?_ hH4 ?_
  rotate_left
  · intro w hSw; (try dsimp only at hSw); simp only [List.getElem?_toArray, List.getElem?_cons_succ, List.getElem?_cons_zero, Option.map_some, Option.some.injEq]; (first | (go_simp; done) | (go_simp; with_reducible rfl))
  try simp only [Act.put, List.setIfInBounds_toArray, List.set_cons_zero, List.set_cons_succ]
  refine hTake (i := 23) (some 51) (v := ?_) (by rfl) (by kernel_rfl) (by kernel_rfl) (by kernel_rfl) (fun _ _ _ h => h) (by rfl) ?_ hH4 ?_
  rotate_left
  · intro w hSw; (try dsimp only at hSw); simp only [List.getElem?_toArray, List.getElem?_cons_succ, List.getElem?_cons_zero, Option.map_some, Option.some.injEq]; (first | (go_simp; done) | (go_simp; with_reducible rfl))
  try simp only [Act.put, List.setIfInBounds_toArray, List.set_cons_zero, List.set_cons_succ]
  refine hOne 24 (by kernel_rfl) (fun K hK => ?_)
  go_simp
  refine (reach_any a ca g _ (HG.out.below (BB.out.trans (hH4.1.mono BB.out.size))) (by omega) (HM.out.below (BB.out.trans (hH4.1.mono BB.out.size)))).mono ?_
  rintro e w11 ⟨v3, rfl, m3⟩
  obtain ⟨a3, c3, rfl, _⟩ := m3.val 0 rfl
  have c9 := m3.below
  clear m3
  (try dsimp only)
  refine hK.out _ _ ?_ (fun hH5 => ?_)
  · exact ⟨hH4.1.trans (c9.mono hH4.1.size), cell_below c9 hH4.2.1, cell_below c9 hH4.2.2.1, cell_below c9 hH4.2.2.2.1, cell_below c9 hH4.2.2.2.2.1, cell_below c9 hH4.2.2.2.2.2.1, cell_below c9 hH4.2.2.2.2.2.2⟩
  clear hK K hH4
  try simp only [Act.put, List.setIfInBounds_toArray, List.set_cons_zero, List.set_cons_succ]
  refine hTake (i := 25) (some 53) (v := ?_) (by rfl) (by kernel_rfl) (by kernel_rfl) (by kernel_rfl) (fun _ _ _ h => h) (by rfl) ?_ hH5 ?_
  rotate_left
  · intro w hSw; (try dsimp only at hSw); simp only [List.getElem?_toArray, List.getElem?_cons_succ, List.getElem?_cons_zero, Option.map_some, Option.some.injEq]; (first | (go_simp; done) | (go_simp; with_reducible rfl))
  try simp only [Act.put, List.setIfInBounds_toArray, List.set_cons_zero, List.set_cons_succ]
  refine hTake (i := 26) (some 54) (v := ?_) (by rfl) (by kernel_rfl) (by kernel_rfl) (by kernel_rfl) (fun _ _ _ h => h) (by rfl) ?_ hH5 ?_
  rotate_left
  · intro w hSw; (try dsimp only at hSw); simp only [List.getElem?_toArray, List.getElem?_cons_succ, List.getElem?_cons_zero, Option.map_some, Option.some.injEq]; (first | (go_simp; done) | (go_simp; with_reducible rfl))
  try simp only [Act.put, List.setIfInBounds_toArray, List.set_cons_zero, List.set_cons_succ]
  refine hTake (i := 27) (some 55) (v := ?_) (by rfl) (by kernel_rfl) (by kernel_rfl) (by kernel_rfl) (fun _ _ _ h => h) (by rfl) ?_ hH5 ?_
  rotate_left
  · intro w hSw; (try dsimp only at hSw); simp only [List.getElem?_toArray, List.getElem?_cons_succ, List.getElem?_cons_zero, Option.map_some, Option.some.injEq]; (first | (go_simp; done) | (go_simp; with_reducible rfl))
  try simp only [Act.put, List.setIfInBounds_toArray, List.set_cons_zero, List.set_cons_succ]
  refine hTake (i := 28) (some 56) (v := ?_) (by rfl) (by kernel_rfl) (by kernel_rfl) (by kernel_rfl) (fun _ _ _ h => h) (by rfl) ?_ hH5 ?_
  rotate_left
  · intro w hSw; (try dsimp only at hSw); simp only [List.getElem?_toArray, List.getElem?_cons_succ, List.getElem?_cons_zero, Option.map_some, Option.some.injEq]; (first | (go_simp; done) | (go_simp; with_reducible rfl))
  try simp only [Act.put, List.setIfInBounds_toArray, List.set_cons_zero, List.set_cons_succ]
  refine hTake (i := 29) (some 57) (v := ?_) (by rfl) (by kernel_rfl) (by kernel_rfl) (by kernel_rfl) (fun _ _ _ h => h) (by rfl) ?_ hH5 ?_
  rotate_left
  · intro w hSw; (try dsimp only at hSw); simp only [List.getElem?_toArray, List.getElem?_cons_succ, List.getElem?_cons_zero, Option.map_some, Option.some.injEq]; (first | (go_simp; done) | (go_simp; with_reducible rfl))
  try simp only [Act.put, List.setIfInBounds_toArray, List.set_cons_zero, List.set_cons_succ]
  refine hTake (i := 30) (some 58) (v := ?_) (by rfl) (by kernel_rfl) (by kernel_rfl) (by kernel_rfl) (fun _ _ _ h => h) (by rfl) ?_ hH5 ?_
  rotate_left
  · intro w hSw; (try dsimp only at hSw); simp only [List.getElem?_toArray, List.getElem?_cons_succ, List.getElem?_cons_zero, Option.map_some, Option.some.injEq]; (first | (go_simp; done) | (go_simp; with_reducible rfl))
  try simp only [Act.put, List.setIfInBounds_toArray, List.set_cons_zero, List.set_cons_succ]
  refine hOne 31 (by kernel_rfl) (fun K hK => ?_)
  go_simp
  refine (same_any a a ca ca g g _ (HG.out.below (BB.out.trans (hH5.1.mono BB.out.size))) (HG.out.below (BB.out.trans (hH5.1.mono BB.out.size))) (by omega) (by omega) (HM.out.below (BB.out.trans (hH5.1.mono BB.out.size)))).mono ?_
  rintro e w9 ⟨rfl, c9⟩
  rw [S3.out]
  (try dsimp only)
  refine hK.out _ _ ?_ (fun hH6 => ?_)
  · exact ⟨hH5.1.trans (c9.mono hH5.1.size), cell_below c9 hH5.2.1, cell_below c9 hH5.2.2.1, cell_below c9 hH5.2.2.2.1, cell_below c9 hH5.2.2.2.2.1, cell_below c9 hH5.2.2.2.2.2.1, cell_below c9 hH5.2.2.2.2.2.2⟩
  clear hK K hH5
  try simp only [Act.put, List.setIfInBounds_toArray, List.set_cons_zero, List.set_cons_succ]
  refine hTake (i := 32) (some 60) (v := ?_) (by rfl) (by kernel_rfl) (by kernel_rfl) (by kernel_rfl) (fun _ _ _ h => h) (by rfl) ?_ hH6 ?_
  rotate_left
  · intro w hSw; (try dsimp only at hSw); simp only [List.getElem?_toArray, List.getElem?_cons_succ, List.getElem?_cons_zero, Option.map_some, Option.some.injEq]; (first | (go_simp; done) | (go_simp; with_reducible rfl))
  try simp only [Act.put, List.setIfInBounds_toArray, List.set_cons_zero, List.set_cons_succ]
  refine hTake (i := 33) (some 61) (v := ?_) (by rfl) (by kernel_rfl) (by kernel_rfl) (by kernel_rfl) (fun _ _ _ h => h) (by rfl) ?_ hH6 ?_
  rotate_left
  · intro w hSw; (try dsimp only at hSw); simp only [List.getElem?_toArray, List.getElem?_cons_succ, List.getElem?_cons_zero, Option.map_some, Option.some.injEq]; (first | (go_simp; done) | (go_simp; with_reducible rfl))
  try simp only [Act.put, List.setIfInBounds_toArray, List.set_cons_zero, List.set_cons_succ]
  refine hTake (i := 34) (some 62) (v := ?_) (by rfl) (by kernel_rfl) (by kernel_rfl) (by kernel_rfl) (fun _ _ _ h => h) (by rfl) ?_ hH6 ?_
  rotate_left
  · intro w hSw; (try dsimp only at hSw); simp only [List.getElem?_toArray, List.getElem?_cons_succ, List.getElem?_cons_zero, Option.map_some, Option.some.injEq]; (first | (go_simp; done) | (go_simp; with_reducible rfl))
  try simp only [Act.put, List.setIfInBounds_toArray, List.set_cons_zero, List.set_cons_succ]
  refine hTake (i := 35) (some 63) (v := ?_) (by rfl) (by kernel_rfl) (by kernel_rfl) (by kernel_rfl) (fun _ _ _ h => h) (by rfl) ?_ hH6 ?_
  rotate_left
  · intro w hSw; (try dsimp only at hSw); simp only [List.getElem?_toArray, List.getElem?_cons_succ, List.getElem?_cons_zero, Option.map_some, Option.some.injEq]; (first | (go_simp; done) | (go_simp; with_reducible rfl))
  try simp only [Act.put, List.setIfInBounds_toArray, List.set_cons_zero, List.set_cons_succ]
  refine hTake (i := 37) (some 65) (v := ?_) (by rfl) (by kernel_rfl) (by kernel_rfl) (by kernel_rfl) (fun _ _ _ h => h) (by rfl) ?_ hH6 ?_
  rotate_left
  · intro w hSw; (try dsimp only at hSw); simp only [List.getElem?_toArray, List.getElem?_cons_succ, List.getElem?_cons_zero, Option.map_some, Option.some.injEq]; (first | (go_simp; done) | (go_simp; with_reducible rfl))
  try simp only [Act.put, List.setIfInBounds_toArray, List.set_cons_zero, List.set_cons_succ]
  refine hTake (i := 38) (some 66) (v := ?_) (by rfl) (by kernel_rfl) (by kernel_rfl) (by kernel_rfl) (fun _ _ _ h => h) (by rfl) ?_ hH6 ?_
  rotate_left
  · intro w hSw; (try dsimp only at hSw); simp only [List.getElem?_toArray, List.getElem?_cons_succ, List.getElem?_cons_zero, Option.map_some, Option.some.injEq]; (first | (go_simp; done) | (go_simp; with_reducible rfl))
  try simp only [Act.put, List.setIfInBounds_toArray, List.set_cons_zero, List.set_cons_succ]
  refine hOne 36 (by kernel_rfl) (fun K hK => ?_)
  go_simp
  refine (same_any a b ca cb g h _ (HG.out.below (BB.out.trans (hH6.1.mono BB.out.size))) (HH.out.below (BB.out.trans (hH6.1.mono BB.out.size))) (by omega) (by omega) (HM.out.below (BB.out.trans (hH6.1.mono BB.out.size)))).mono ?_
  rintro e w9 ⟨rfl, c9⟩
  skip
  (try dsimp only)
  refine hK.out _ _ ?_ (fun hH7 => ?_)
  · exact ⟨hH6.1.trans (c9.mono hH6.1.size), cell_below c9 hH6.2.1, cell_below c9 hH6.2.2.1, cell_below c9 hH6.2.2.2.1, cell_below c9 hH6.2.2.2.2.1, cell_below c9 hH6.2.2.2.2.2.1, cell_below c9 hH6.2.2.2.2.2.2⟩
  clear hK K hH6
  try simp only [Act.put, List.setIfInBounds_toArray, List.set_cons_zero, List.set_cons_succ]
  refine hOne 39 (by kernel_rfl) (fun K hK => ?_)
  go_simp
  refine (same_any b a cb ca h g _ (HH.out.below (BB.out.trans (hH7.1.mono BB.out.size))) (HG.out.below (BB.out.trans (hH7.1.mono BB.out.size))) (by omega) (by omega) (HM.out.below (BB.out.trans (hH7.1.mono BB.out.size)))).mono ?_
  rintro e w9 ⟨rfl, c9⟩
  rw [sameB_symm h g]
  (try dsimp only)
  refine hK.out _ _ ?_ (fun hH8 => ?_)
  · exact ⟨hH7.1.trans (c9.mono hH7.1.size), cell_below c9 hH7.2.1, cell_below c9 hH7.2.2.1, cell_below c9 hH7.2.2.2.1, cell_below c9 hH7.2.2.2.2.1, cell_below c9 hH7.2.2.2.2.2.1, cell_below c9 hH7.2.2.2.2.2.2⟩
  clear hK K hH7
  try simp only [Act.put, List.setIfInBounds_toArray, List.set_cons_zero, List.set_cons_succ]
  refine hTake (i := 40) (some 68) (v := ?_) (by rfl) (by kernel_rfl) (by kernel_rfl) (by kernel_rfl) (fun _ _ _ h => h) (by rfl) ?_ hH8 ?_
  rotate_left
  · intro w hSw; (try dsimp only at hSw); simp only [List.getElem?_toArray, List.getElem?_cons_succ, List.getElem?_cons_zero, Option.map_some, Option.some.injEq]; (first | (go_simp; done) | (go_simp; with_reducible rfl))
  try simp only [Act.put, List.setIfInBounds_toArray, List.set_cons_zero, List.set_cons_succ]
  refine hTake (i := 41) (some 69) (v := ?_) (by rfl) (by kernel_rfl) (by kernel_rfl) (by kernel_rfl) (fun _ _ _ h => h) (by rfl) ?_ hH8 ?_
  rotate_left
  · intro w hSw; (try dsimp only at hSw); simp only [List.getElem?_toArray, List.getElem?_cons_succ, List.getElem?_cons_zero, Option.map_some, Option.some.injEq]; (first | (go_simp; done) | (go_simp; with_reducible rfl))
  try simp only [Act.put, List.setIfInBounds_toArray, List.set_cons_zero, List.set_cons_succ]
  refine hTake (i := 42) (some 4) (v := ?_) (by rfl) (by kernel_rfl) (by kernel_rfl) (by kernel_rfl) (fun _ _ _ h => h) (by rfl) ?_ hH8 ?_
  rotate_left
  · intro w hSw; (try dsimp only at hSw); simp only [List.getElem?_toArray, List.getElem?_cons_succ, List.getElem?_cons_zero, Option.map_some, Option.some.injEq]; (first | (go_simp; done) | (go_simp; with_reducible rfl))
  try simp only [Act.put, List.setIfInBounds_toArray, List.set_cons_zero, List.set_cons_succ]
  refine wpAnyH_done (by kernel_rfl) ?_ _
  have HB2 := Tre.hid hH8.1
  clear hH8
  go_wp2_with fail
  go_ret
  exact ⟨rfl, BB.out.trans (HB2.out.mono BB.out.size)⟩
end Go.Proofs.Ytgngnkajjldnlaa.gr
