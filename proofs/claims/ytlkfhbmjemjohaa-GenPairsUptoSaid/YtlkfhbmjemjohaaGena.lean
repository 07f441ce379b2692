/- Layer 13: the law's example; good; inst.Closed. -/
import Derived.Test.YtlkfhbmjemjohaaFresh
import Derived.Test.YtlkfhbmjemjohaaGenq
import Derived.Test.YtlkfhbmjemjohaaRefe
import Derived.Test.YtlkfhbmjemjohaaGreat
import Derived.Test.YtlkfhbmjemjohaaLoos
namespace Go.Tre
open Go.RowKit
def arrow13 : ByteArray := ⟨#[45, 62]⟩
def v13 : Tre.Node := ⟨1, ByteArray.empty, [], [], false⟩
def ex13 : Tre.Graph := ⟨[⟨2, arrow13, [1, 2], [], false⟩, v13, v13], 0⟩
theorem ex13_ok : ex13.checkC = 0 := by decide +kernel
theorem ex13_d2 : ex13.dfs [2] [] = [2] := by
  rw [Graph.dfs_take (by decide) (by decide), show ex13.kids 2 = [] from rfl]
  show ex13.dfs [] [2] = _
  rw [Graph.dfs_nil]
theorem ex13_d1 : ex13.dfs [1] [] = [1] := by
  rw [Graph.dfs_take (by decide) (by decide), show ex13.kids 1 = [] from rfl]
  show ex13.dfs [] [1] = _
  rw [Graph.dfs_nil]
theorem ex13_d0 : ex13.dfs [0] [] = [0, 1, 2] := by
  rw [Graph.dfs_take (by decide) (by decide), show ex13.kids 0 = [1, 2] from rfl]
  show ex13.dfs [1, 2] [0] = _
  rw [Graph.dfs_take (by decide) (by decide), show ex13.kids 1 = [] from rfl]
  show ex13.dfs [2] [0, 1] = _
  rw [Graph.dfs_take (by decide) (by decide), show ex13.kids 2 = [] from rfl]
  show ex13.dfs [] [0, 1, 2] = _
  rw [Graph.dfs_nil]
theorem ex13_generic : ex13.genericL [2] = [1] := by
  unfold Graph.genericL Graph.markB
  rw [show (ex13.root.toNat) = 0 from rfl, ex13_d2, ex13_d0]
  decide +kernel
theorem ex13_reach : ex13.reachL = [0, 1, 2] := by
  unfold Graph.reachL
  rw [if_pos ex13_ok]
  exact ex13_d0
theorem ex13_lead : ex13.leadB [1] 0 = true ∧ ex13.leadB [1] 1 = true ∧ ex13.leadB [1] 2 = false := by
  unfold Graph.leadB
  rw [ex13_d0, ex13_d1, ex13_d2]
  decide
theorem ex13_copies : ex13.copiesL [2] = [0, 1] := by
  unfold Graph.copiesL
  rw [ex13_generic, ex13_reach]
  simp only [List.filter_cons, List.filter_nil, ex13_lead.1, ex13_lead.2.1, ex13_lead.2.2]
  rfl
theorem ex13_fresh : (ex13.freshG [2]).ns = ex13.ns ++ [⟨2, arrow13, [4, 2], [], false⟩, v13] ∧ (ex13.freshG [2]).root = 3 := by
  unfold Graph.freshG
  rw [ex13_copies]
  exact ⟨by decide +kernel, by decide +kernel⟩
end Go.Tre
namespace Go.Proofs.Ytlkfhbmjemjohaa.gr
open Go.RowKit Go.Shelf Go.Maps Go.Tre lex
theorem row13 {W : World} {b : Nat} {t : TypeId} {cs : Array Value} (h : W.heap[b]? = some (.cells cs t (0, 0))) (sz n : Nat) (hl : cs.toList.length = n * sz) : Row W sz (some ⟨b, 0, none⟩) n cs.toList := row_lit h sz n hl
set_option maxHeartbeats 2000000 in
theorem good_any (a : Option Addr) (ca : Nat) (g : Tre.Graph) (am : Option Addr) (n cm : Nat) (most : Int) (w : World) (wg : g.weight ≤ 8388608) (hg : NodesAt w a g.ns) :
    Calls Try.prog 7 #[.agg #[.slice a g.ns.length ca, .int .i64 g.root], .slice am n cm, .int .i64 most] w fun e w' => e = .returned (.bool (decide ((g.great : Int) ≤ most) && decide ((n : Int) ≤ 60))) ∧ Below w.heap.size w w' := by
  have M := (Mem.nil w).allocR #[.slice a g.ns.length ca, .int .i64 g.root] 24
  have HGR := Tre.hid (great.great a ca g _ wg (hg.below M.below))
  have HM0 := Tre.hid M
  clear hg M
  by_cases h1 : (g.great : Int) ≤ most
  · go_enter Try.func7, Try.ntmps7
    go_wp2_with fail
    refine HGR.out.mono ?_
    rintro e w1 ⟨rfl, b1⟩
    have HM1 := Tre.hid (HM0.out.quiet b1)
    clear b1
    go_wp2_with fail
    go_ret
    exact ⟨ret_bool (by simp [h1]), HM1.out.below⟩
  · go_enter Try.func7, Try.ntmps7
    go_wp2_with fail
    refine HGR.out.mono ?_
    rintro e w1 ⟨rfl, b1⟩
    have HM1 := Tre.hid (HM0.out.quiet b1)
    clear b1
    go_wp2_with fail
    go_ret
    exact ⟨ret_bool (by rw [show decide ((g.great : Int) ≤ most) = false from decide_eq_false (by omega)]; rfl), HM1.out.below⟩
set_option maxHeartbeats 2000000 in
theorem closed_any (a : Option Addr) (ca : Nat) (g : Tre.Graph) (w : World) (hg : NodesAt w a g.ns) (c0 : g.checkC = 0) (wg : g.weight ≤ 2097152) (hm : MaxAt w) :
    Calls Try.prog 17 #[.agg #[.slice a g.ns.length ca, .int .i64 g.root]] w fun e w' => e = .returned (.bool (decide (g.freeL.length = 0))) ∧ Below w.heap.size w w' := by
  have M := (Mem.nil w).allocR #[.slice a g.ns.length ca, .int .i64 g.root] 24
  have CK := check_any a ca g _ (hg.below M.below) (by omega) (hm.below M.below)
  rw [c0] at CK
  have HCK := Tre.hid CK
  have HG := Tre.hid hg
  have HX := Tre.hid hm
  have HM0 := Tre.hid M
  clear hg hm M c0 CK
  go_enter Try.func17, Try.ntmps17
  go_wp2_with fail
  refine HCK.out.mono ?_
  rintro e w1 ⟨rfl, b1⟩
  have M1 := HM0.out.quiet b1
  obtain ⟨g0, g1⟩ := M1.two 0 rfl
  have HM1 := Tre.hid M1
  clear M1 b1
  go_wp2_with fail
  refine (freeF_any a ca g _ (HG.out.below HM1.out.below) wg (HX.out.below HM1.out.below)).mono ?_
  rintro e w2 ⟨v2, rfl, m2⟩
  have M2 := HM1.out.call m2
  obtain ⟨a2, c2, rfl, _⟩ := M2.val 0 rfl
  have HM2 := Tre.hid M2
  clear m2 M2
  go_wp2_with fail
  go_ret
  exact ⟨ret_bool (by first | rfl | (rw [Bool.eq_iff_iff]; simp) | (rw [Bool.eq_iff_iff]; simp; omega)), HM2.out.below⟩

theorem ints_one {w0 w : World} {rs : List Res} {a : Option Addr} {m : Nat} (M : Mem w0 w (rowR 3 1 (.slice a 1 1) 1 [.int .i64 (m : Int)] :: rs)) : IntsAt w a ([m].map fun k : Nat => (k : Int)) := by
  obtain ⟨_, _, e, _, r⟩ := row_read (M.row 0 rfl)
  cases e
  exact r

set_option maxRecDepth 100000 in
set_option maxHeartbeats 4000000 in
theorem alive13 (w : World) (hm : MaxAt w) : Calls Try.prog 6 #[] w fun e w' => e = .returned (.bool true) ∧ Below w.heap.size w w' := by
  have HX := Tre.hid hm
  have M := (((Mem.nil w).allocR #[.int .i64 1, .int .i64 2] 3).allocR #[.int .i64 2, .string arrow13, .slice (some ⟨w.heap.size, 0, none⟩) 2 2, .slice none 0 0, .bool false, .int .i64 1, .string ByteArray.empty, .slice none 0 0, .slice none 0 0, .bool false, .int .i64 1, .string ByteArray.empty, .slice none 0 0, .slice none 0 0, .bool false] 38).allocR #[.slice (some ⟨w.heap.size + 1, 0, none⟩) 3 3, .int .i64 0] 24
  simp only [heapSize_alloc] at M
  have M4 := M.allocRow #[.int .i64 2] 3 1 1 (by unfold maxLen; omega) rfl
  simp only [heapSize_alloc] at M4
  have n3 := M4.heap 2 rfl
  have a0 := M4.heap 3 rfl
  have N0 : NodesAt _ (some ⟨w.heap.size + 1, 0, none⟩) ex13.ns := ⟨fun k n hn => ⟨_, 0, rfl, by
    have hk : k < 3 := lt_len2 hn
    match k, hk with
    | 0, _ => cases hn; exact ⟨_, _, _, _, cell_of_heap n3 rfl, cell_of_heap n3 rfl, cell_of_heap n3 rfl, cell_of_heap n3 rfl, cell_of_heap n3 rfl, row_lit a0 1 2 rfl, row_none _ _, Nat.le_refl _, Nat.le_refl _⟩
    | 1, _ => cases hn; exact ⟨_, _, _, _, cell_of_heap n3 rfl, cell_of_heap n3 rfl, cell_of_heap n3 rfl, cell_of_heap n3 rfl, cell_of_heap n3 rfl, row_none _ _, row_none _ _, Nat.le_refl _, Nat.le_refl _⟩
    | 2, _ => cases hn; exact ⟨_, _, _, _, cell_of_heap n3 rfl, cell_of_heap n3 rfl, cell_of_heap n3 rfl, cell_of_heap n3 rfl, cell_of_heap n3 rfl, row_none _ _, row_none _ _, Nat.le_refl _, Nat.le_refl _⟩⟩⟩
  have R4 := ints_one (m := 2) M4
  have CF := fresh_ok (some ⟨w.heap.size + 1, 0, none⟩) 3 ex13 (some ⟨w.heap.size + 1 + 1 + 1, 0, none⟩) 1 [2] _ N0 ex13_ok (by decide +kernel) R4 (by decide) (by decide) (hm.below M4.below) (by rw [ex13_copies]; decide)
  rw [ex13_fresh.1, ex13_fresh.2] at CF
  have HCF := Tre.hid CF
  have HN0 := Tre.hid N0
  have HM4 := Tre.hid M4
  clear hm M M4 n3 a0 N0 R4 CF
  go_enter Try.func6, Try.ntmps6
  go_wp2_with fail
  refine HCF.out.mono ?_
  rintro e w1 ⟨vN, ds, rfl, hds, m1⟩
  have M5 := HM4.out.call m1
  have hd3 : ∃ d, ds[3]? = some d ∧ d.n = ⟨2, arrow13, [4, 2], [], false⟩ := by
    have h := congrArg (fun l => l[3]?) hds
    simp only [List.getElem?_map] at h
    cases hd : ds[3]? with
    | none => rw [hd] at h; cases h
    | some d => rw [hd] at h; exact ⟨d, rfl, Option.some.inj h⟩
  obtain ⟨d, hd, hdn⟩ := hd3
  have hdl : ds.length = 5 := by have := congrArg List.length hds; rw [List.length_map] at this; exact this
  have M6 := M5.allocR #[vN, .int .i64 3] 24
  obtain ⟨aN, cN, rfl, _⟩ := M5.val 0 rfl
  rw [hdl] at M6
  obtain ⟨b2, hb2⟩ : ∃ b2 : Nat, w1.heap.size = b2 := ⟨_, rfl⟩
  rw [hb2] at M6
  rw [hdl]
  obtain ⟨w2, hw2⟩ : ∃ w2 : World, w1.alloc (.cells #[.slice aN 5 cN, .int .i64 3] 24) = w2 := ⟨_, rfl⟩
  rw [hw2] at M6
  obtain ⟨g0, g1⟩ := M6.two 4 rfl
  have M7 := M6.allocRow #[.int .i64 2] 3 1 1 (by unfold maxLen; omega) rfl
  have R7 := ints_one (m := 2) M7
  have B7 : Below w.heap.size w (w2.alloc (.cells #[.int .i64 2] 3)) := M7.below
  have BA := m1.below.alloc m1.below.size (.cells #[.slice aN 5 cN, .int .i64 3] 24)
  rw [hw2] at BA
  have BB := BA.alloc BA.size (.cells #[.int .i64 2] 3)
  have CG := generic_ok (some ⟨w.heap.size + 1, 0, none⟩) 3 ex13 (some ⟨w2.heap.size, 0, none⟩) 1 [2] _ (HN0.out.below BB) ex13_ok (by decide +kernel) R7 (by decide) (by decide) (HX.out.below B7)
  rw [ex13_generic] at CG
  have HCG := Tre.hid CG
  have HM7 := Tre.hid M7
  have HDN := Tre.hid hdn
  have HD := Tre.hid hd
  have HDL := Tre.hid hdl
  clear m1 M5 M6 M7 R7 B7 BA BB CG hdn hd hdl hds
  go_wp2_with fail
  refine HCG.out.mono ?_
  rintro e w3 ⟨vg, rfl, m3⟩
  have M8 := HM7.out.call m3
  obtain ⟨ag, cg, rfl, _⟩ := M8.val 0 rfl
  obtain ⟨gg, rfl, _, _, q1⟩ := M8.getRow 0 rfl 0 (u := .int .i64 1) rfl
  obtain ⟨f0, f1⟩ := M8.two 2 rfl
  obtain ⟨gN, rfl, _, _, p2⟩ := M8.getRow 3 (by rw [nodesR_len HDL.out]; rfl) 17 (u := d.va) ((cells_at ds 3 2 d HD.out (by omega)).trans rfl)
  have hrow := (M8.at_ 4 rfl) (rowR 3 1 d.va d.n.args.length (d.n.args.map (Value.int .i64))) (List.mem_flatMap.2 ⟨d, List.mem_of_getElem? HD.out, by simp [kids]⟩)
  rw [HDN.out] at hrow
  obtain ⟨ga, cA, hva⟩ : ∃ g cap, d.va = .slice (some ⟨g, 0, none⟩) 2 cap := ownsRow_succ hrow
  rw [hva] at p2 hrow
  have r0 : w3.cell? ⟨ga, 0, none⟩ = some (.int .i64 4) := World.ownsRow.cellAt hrow 0 (by simp)
  have r1 : w3.cell? ⟨ga, 1, none⟩ = some (.int .i64 2) := World.ownsRow.cellAt hrow 1 (by simp)
  have HM8 := Tre.hid M8
  clear m3 M8 hrow hva g0 g1
  go_wp2_with fail
  go_ret
  exact ⟨rfl, HM8.out.below⟩
end Go.Proofs.Ytlkfhbmjemjohaa.gr
