/- Layer 13: the law's example; good. gen.Fresh's weight; where it comes to an error. GenCopies: the walk. Arguments out of their readings: what all of them share; the wrap for a row with a bound, the world's shape kept. How an argument that is a graph lies in memory, out of its reading. -/
import Derived.Test.YtlkfhbmjemjohaaGreatDoorB22
import Derived.Test.YtlkfhbmjemjohaaGreatDoorB06
import Derived.Test.YtlkfhbmjemjohaaGreatDoorB20
import Derived.Test.YtlkfhbmjemjohaaGreatDoorB16
import Derived.Test.YtlkfhbmjemjohaaGreatDoorB19
import Derived.Test.YtlkfhbmjemjohaaGreatDoorRows
import Derived.Test.YtlkfhbmjemjohaaGreatDoorB00
import Derived.JoinedCond
import Derived.ChangeSlices
import Derived.SliceStrings
import Derived.Deep.Slices
import Derived.Shelf.Vars
set_option linter.unusedVariables false
namespace Go.Tre
open Go.RowKit
def arrow13 : ByteArray := ⟨#[45, 62]⟩
def v13 : Tre.Node := ⟨1, ByteArray.empty, [], [], false⟩
def ex13 : Tre.Graph := ⟨[⟨2, arrow13, [1, 2], [], false⟩, v13, v13], 0⟩
theorem ex13_ok : ex13.checkC = 0 := by decide +kernel
theorem ex13_d2 : ex13.dfs [2] [] = [2] := by
 rw [Graph.dfs_take (by decide) (by decide), show ex13.kids 2 = [] from rfl]
 show ex13.dfs [] [2] = _
 rw [Graph.dfs_nil]
theorem ex13_d1 : ex13.dfs [1] [] = [1] := by
 rw [Graph.dfs_take (by decide) (by decide), show ex13.kids 1 = [] from rfl]
 show ex13.dfs [] [1] = _
 rw [Graph.dfs_nil]
theorem ex13_d0 : ex13.dfs [0] [] = [0, 1, 2] := by
 rw [Graph.dfs_take (by decide) (by decide), show ex13.kids 0 = [1, 2] from rfl]
 show ex13.dfs [1, 2] [0] = _
 rw [Graph.dfs_take (by decide) (by decide), show ex13.kids 1 = [] from rfl]
 show ex13.dfs [2] [0, 1] = _
 rw [Graph.dfs_take (by decide) (by decide), show ex13.kids 2 = [] from rfl]
 show ex13.dfs [] [0, 1, 2] = _
 rw [Graph.dfs_nil]
theorem ex13_generic : ex13.genericL [2] = [1] := by
 unfold Graph.genericL Graph.markB
 rw [show (ex13.root.toNat) = 0 from rfl, ex13_d2, ex13_d0]
 decide +kernel
theorem ex13_reach : ex13.reachL = [0, 1, 2] := by
 unfold Graph.reachL
 rw [if_pos ex13_ok]
 exact ex13_d0
theorem ex13_lead : ex13.leadB [1] 0 = true ∧ ex13.leadB [1] 1 = true ∧ ex13.leadB [1] 2 = false := by
 unfold Graph.leadB
 rw [ex13_d0, ex13_d1, ex13_d2]
 decide
theorem ex13_copies : ex13.copiesL [2] = [0, 1] := by
 unfold Graph.copiesL
 rw [ex13_generic, ex13_reach]
 simp only [List.filter_cons, List.filter_nil, ex13_lead.1, ex13_lead.2.1, ex13_lead.2.2]
 rfl
theorem ex13_fresh : (ex13.freshG [2]).ns = ex13.ns ++ [⟨2, arrow13, [4, 2], [], false⟩, v13] ∧ (ex13.freshG [2]).root = 3 := by
 unfold Graph.freshG
 rw [ex13_copies]
 exact ⟨by decide +kernel, by decide +kernel⟩
end Go.Tre
namespace Go.Proofs.YtlkfhbmjemjohaaGreatDoor.gr
open Go.RowKit Go.Shelf Go.Maps Go.Tre lex
set_option maxHeartbeats 2000000 in
theorem good_any (a : Option Addr) (ca : Nat) (g : Tre.Graph) (am : Option Addr) (n cm : Nat) (most : Int) (w : World) (wg : g.weight ≤ 8388608) (hg : NodesAt w a g.ns) :
  Calls Tryz.prog 5 #[.agg #[.slice a g.ns.length ca, .int .i64 g.root], .slice am n cm, .int .i64 most] w fun e w' => e = .returned (.bool (decide ((g.great : Int) ≤ most) && decide ((n : Int) ≤ 60))) ∧ Below w.heap.size w w' := by
 have M := (Mem.nil w).allocR #[.slice a g.ns.length ca, .int .i64 g.root] 24
 have HGR := Tre.hid (great.great a ca g _ wg (hg.below M.below))
 have HM0 := Tre.hid M
 clear hg M
 by_cases h1 : (g.great : Int) ≤ most
 ·go_enter Tryz.func5, Tryz.ntmps5
  go_wp2_with fail
  refine HGR.out.mono ?_
  rintro e w1 ⟨rfl, b1⟩
  have HM1 := Tre.hid (HM0.out.quiet b1)
  clear b1
  go_wp2_with fail
  go_ret
  exact ⟨ret_bool (by simp [h1]), HM1.out.below⟩
 ·go_enter Tryz.func5, Tryz.ntmps5
  go_wp2_with fail
  refine HGR.out.mono ?_
  rintro e w1 ⟨rfl, b1⟩
  have HM1 := Tre.hid (HM0.out.quiet b1)
  clear b1
  go_wp2_with fail
  go_ret
  exact ⟨ret_bool (by rw [show decide ((g.great : Int) ≤ most) = false from decide_eq_false (by omega)]; rfl), HM1.out.below⟩
theorem ints_one {w0 w : World} {rs : List Res} {a : Option Addr} {m : Nat} (M : Mem w0 w (rowR 3 1 (.slice a 1 1) 1 [.int .i64 (m : Int)] :: rs)) : IntsAt w a ([m].map fun k : Nat => (k : Int)) := by
 obtain ⟨_, _, e, _, r⟩ := row_read (M.row 0 rfl)
 cases e
 exact r

set_option maxRecDepth 100000 in
set_option maxHeartbeats 4000000 in
theorem alive13 (w : World) (hm : MaxAt w) : Calls Tryz.prog 4 #[] w fun e w' => e = .returned (.bool true) ∧ Below w.heap.size w w' := by
 have HX := Tre.hid hm
 have M := (((Mem.nil w).allocR #[.int .i64 1, .int .i64 2] 3).allocR #[.int .i64 2, .string arrow13, .slice (some ⟨w.heap.size, 0, none⟩) 2 2, .slice none 0 0, .bool false, .int .i64 1, .string ByteArray.empty, .slice none 0 0, .slice none 0 0, .bool false, .int .i64 1, .string ByteArray.empty, .slice none 0 0, .slice none 0 0, .bool false] 40).allocR #[.slice (some ⟨w.heap.size + 1, 0, none⟩) 3 3, .int .i64 0] 24
 simp only [heapSize_alloc] at M
 have M4 := M.allocRow #[.int .i64 2] 3 1 1 (by unfold maxLen; omega) rfl
 simp only [heapSize_alloc] at M4
 have n3 := M4.heap 2 rfl
 have a0 := M4.heap 3 rfl
 have N0 : NodesAt _ (some ⟨w.heap.size + 1, 0, none⟩) ex13.ns := ⟨fun k n hn => ⟨_, 0, rfl, by
  have hk : k < 3 := lt_len2 hn
  match k, hk with
  | 0, _ => cases hn; exact ⟨_, _, _, _, cell_of_heap n3 rfl, cell_of_heap n3 rfl, cell_of_heap n3 rfl, cell_of_heap n3 rfl, cell_of_heap n3 rfl, row_lit a0 1 2 rfl, row_none _ _, Nat.le_refl _, Nat.le_refl _⟩
  | 1, _ => cases hn; exact ⟨_, _, _, _, cell_of_heap n3 rfl, cell_of_heap n3 rfl, cell_of_heap n3 rfl, cell_of_heap n3 rfl, cell_of_heap n3 rfl, row_none _ _, row_none _ _, Nat.le_refl _, Nat.le_refl _⟩
  | 2, _ => cases hn; exact ⟨_, _, _, _, cell_of_heap n3 rfl, cell_of_heap n3 rfl, cell_of_heap n3 rfl, cell_of_heap n3 rfl, cell_of_heap n3 rfl, row_none _ _, row_none _ _, Nat.le_refl _, Nat.le_refl _⟩⟩⟩
 have R4 := ints_one (m := 2) M4
 have CF := fresh_ok (some ⟨w.heap.size + 1, 0, none⟩) 3 ex13 (some ⟨w.heap.size + 1 + 1 + 1, 0, none⟩) 1 [2] _ N0 ex13_ok (by decide +kernel) R4 (by decide) (by decide) (hm.below M4.below) (by rw [ex13_copies]; decide)
 rw [ex13_fresh.1, ex13_fresh.2] at CF
 have HCF := Tre.hid CF
 have HN0 := Tre.hid N0
 have HM4 := Tre.hid M4
 clear hm M M4 n3 a0 N0 R4 CF
 go_enter Tryz.func4, Tryz.ntmps4
 go_wp2_with fail
 refine HCF.out.mono ?_
 rintro e w1 ⟨vN, ds, rfl, hds, m1⟩
 have M5 := HM4.out.call m1
 have hd3 : ∃ d, ds[3]? = some d ∧ d.n = ⟨2, arrow13, [4, 2], [], false⟩ := by
  have h := congrArg (fun l => l[3]?) hds
  simp only [List.getElem?_map] at h
  cases hd : ds[3]? with
  | none => rw [hd] at h; cases h
  | some d => rw [hd] at h; exact ⟨d, rfl, Option.some.inj h⟩
 obtain ⟨d, hd, hdn⟩ := hd3
 have hdl : ds.length = 5 := by have := congrArg List.length hds; rw [List.length_map] at this; exact this
 have M6 := M5.allocR #[vN, .int .i64 3] 24
 obtain ⟨aN, cN, rfl, _⟩ := M5.val 0 rfl
 rw [hdl] at M6
 obtain ⟨b2, hb2⟩ : ∃ b2 : Nat, w1.heap.size = b2 := ⟨_, rfl⟩
 rw [hb2] at M6
 rw [hdl]
 obtain ⟨w2, hw2⟩ : ∃ w2 : World, w1.alloc (.cells #[.slice aN 5 cN, .int .i64 3] 24) = w2 := ⟨_, rfl⟩
 rw [hw2] at M6
 obtain ⟨g0, g1⟩ := M6.two 4 rfl
 have M7 := M6.allocRow #[.int .i64 2] 3 1 1 (by unfold maxLen; omega) rfl
 have R7 := ints_one (m := 2) M7
 have B7 : Below w.heap.size w (w2.alloc (.cells #[.int .i64 2] 3)) := M7.below
 have BA := m1.below.alloc m1.below.size (.cells #[.slice aN 5 cN, .int .i64 3] 24)
 rw [hw2] at BA
 have BB := BA.alloc BA.size (.cells #[.int .i64 2] 3)
 have CG := generic_ok (some ⟨w.heap.size + 1, 0, none⟩) 3 ex13 (some ⟨w2.heap.size, 0, none⟩) 1 [2] _ (HN0.out.below BB) ex13_ok (by decide +kernel) R7 (by decide) (by decide) (HX.out.below B7)
 rw [ex13_generic] at CG
 have HCG := Tre.hid CG
 have HM7 := Tre.hid M7
 have HDN := Tre.hid hdn
 have HD := Tre.hid hd
 have HDL := Tre.hid hdl
 clear m1 M5 M6 M7 R7 B7 BA BB CG hdn hd hdl hds
 go_wp2_with fail
 refine HCG.out.mono ?_
 rintro e w3 ⟨vg, rfl, m3⟩
 have M8 := HM7.out.call m3
 obtain ⟨ag, cg, rfl, _⟩ := M8.val 0 rfl
 obtain ⟨gg, rfl, _, _, q1⟩ := M8.getRow 0 rfl 0 (u := .int .i64 1) rfl
 obtain ⟨f0, f1⟩ := M8.two 2 rfl
 obtain ⟨gN, rfl, _, _, p2⟩ := M8.getRow 3 (by rw [nodesR_len HDL.out]; rfl) 17 (u := d.va) ((cells_at ds 3 2 d HD.out (by omega)).trans rfl)
 have hrow := (M8.at_ 4 rfl) (rowR 3 1 d.va d.n.args.length (d.n.args.map (Value.int .i64))) (List.mem_flatMap.2 ⟨d, List.mem_of_getElem? HD.out, by simp [kids]⟩)
 rw [HDN.out] at hrow
 obtain ⟨ga, cA, hva⟩ : ∃ g cap, d.va = .slice (some ⟨g, 0, none⟩) 2 cap := ownsRow_succ hrow
 rw [hva] at p2 hrow
 have r0 : w3.cell? ⟨ga, 0, none⟩ = some (.int .i64 4) := World.ownsRow.cellAt hrow 0 (by simp)
 have r1 : w3.cell? ⟨ga, 1, none⟩ = some (.int .i64 2) := World.ownsRow.cellAt hrow 1 (by simp)
 have HM8 := Tre.hid M8
 clear m3 M8 hrow hva g0 g1
 go_wp2_with fail
 go_ret
 exact ⟨rfl, HM8.out.below⟩
end Go.Proofs.YtlkfhbmjemjohaaGreatDoor.gr
namespace Go.Tre
theorem fresh_weight (g : Tre.Graph) (mono : List Nat) : (g.freshG mono).weight ≤ g.weight + g.weight := by
 have e : (g.freshG mono).weight = g.weight + ((g.copiesL mono).map fun i => (g.nd i).weight).sum := by
  unfold Graph.weight Graph.freshG
  simp only [List.map_append, List.sum_append, List.map_map]
  congr 2
  refine List.map_congr_left (fun i _ => ?_)
  simp [copyN, Node.weight]
 have h := sum_le_all (fun i => (g.nd i).weight) (n := g.ns.length) (Graph.copies_nodup (g := g) (mono := mono)) (fun a ha => Graph.copies_lt ha)
 rw [e]
 have h2 := g.weight_range
 omega
theorem copies_len_le (g : Tre.Graph) (mono : List Nat) : (g.copiesL mono).length ≤ g.ns.length := nodup_len Graph.copies_nodup (fun _ ha => Graph.copies_lt ha)
end Go.Tre
namespace Go.Proofs.YtlkfhbmjemjohaaGreatDoor.gr
open Go.RowKit Go.Shelf Go.Maps Go.Tre lex
end Go.Proofs.YtlkfhbmjemjohaaGreatDoor.gr
namespace Go.Tre
theorem bigs_smallC (l : List ByteArray) (h : (l.map big).sum ≤ 300) : (l.map fun s => s.size + 1).sum ≤ 1001 * l.length := by
 induction l with
 | nil => simp
 | cons s r ih =>
  simp only [List.map_cons, List.sum_cons, List.length_cons] at h ⊢
  have h1 : s.size ≤ 1000 := by
   have hb : big s ≤ 300 := by omega
   unfold big at hb
   split at hb <;> omega
  have := ih (by omega)
  omega
theorem great_weightC {g : Tre.Graph} (h : g.great ≤ 300) : g.weight ≤ 300300 := by
 have go : ∀ ns : List Tre.Node, (ns.map Node.great).sum ≤ 300 → (ns.map Node.weight).sum ≤ 1001 * (ns.length + (ns.map Node.great).sum) := by
  intro ns
  induction ns with
  | nil => intro _; simp
  | cons n r ih =>
   intro h
   simp only [List.map_cons, List.sum_cons, List.length_cons] at h ⊢
   have h2 := ih (by omega)
   have h3 : n.great ≤ 300 := by omega
   have h6 : n.weight ≤ 1001 + 1001 * n.great := by
    unfold Node.great at h3 ⊢
    unfold Node.weight
    have h4 := bigs_smallC n.labels (by omega)
    have h5 : n.name.size ≤ 1000 := by
     have hb : big n.name ≤ 300 := by omega
     unfold big at hb
     split at hb <;> omega
    omega
   omega
 unfold Graph.great at h
 have := go g.ns (by omega)
 unfold Graph.weight
 omega
theorem wide_weight (f : Tre.Graph) : f.wide ≤ f.weight := by
 unfold Graph.wide Graph.weight
 have : ∀ l : List Tre.Node, (l.map fun n => n.args.length).sum ≤ (l.map Node.weight).sum := by
  intro l
  induction l with
  | nil => simp
  | cons n r ih =>
   simp only [List.map_cons, List.sum_cons]
   have : n.args.length ≤ n.weight := by unfold Node.weight; omega
   omega
 exact this _
end Go.Tre
namespace Go.Proofs.YtlkfhbmjemjohaaGreatDoor.sol
open Go.RowKit Go.Shelf Go.Maps Go.MapKept Go.ChangeMaps Go.Tre lex gr
set_option maxRecDepth 100000 in
set_option maxHeartbeats 16000000 in
theorem copiesLaw (a : Option Addr) (ca : Nat) (g : Tre.Graph) (w : World) (hg : NodesAt w a g.ns) (wg : g.weight ≤ 1048576) (hm : MaxAt w) :
  Calls Tryz.prog 3 #[.agg #[.slice a g.ns.length ca, .int .i64 g.root]] w fun e w' => e = .returned (.bool true) ∧ Below w.heap.size w w' := by
 have M := (Mem.nil w).allocR #[.slice a g.ns.length ca, .int .i64 g.root] 24
 have HM := Tre.hid hm
 have HG := Tre.hid hg
 have HM0 := Tre.hid M
 have CGD := fun W (h : Below w.heap.size w W) => good_any a ca g none 0 0 200 W (by omega) (hg.below h)
 have HGD := Tre.hid CGD
 have CCK := fun W (h : Below w.heap.size w W) => check_any a ca g W (hg.below h) (by omega) (hm.below h)
 have HCK := Tre.hid CCK
 clear hg hm M CGD CCK
 go_enter Tryz.func3, Tryz.ntmps3
 go_wp2_with fail
 refine (alive13 _ (HM.out.below HM0.out.below)).mono ?_
 rintro e w1 ⟨rfl, b1'⟩
 have M1 := HM0.out.quiet b1'
 obtain ⟨g0, g1⟩ := M1.two 0 rfl
 have HM1 := Tre.hid M1
 clear M1 b1'
 go_wp2_with fail
 cases hgd : (decide ((g.great : Int) ≤ 200) && decide (((0 : Nat) : Int) ≤ 60))
 ·have CGD := HGD.out w1 HM1.out.below
  rw [hgd] at CGD
  refine CGD.mono ?_
  rintro e w2 ⟨rfl, b2⟩
  have HM2 := Tre.hid (HM1.out.quiet b2)
  clear b2 CGD hgd
  go_wp2_with fail
  go_ret
  exact ⟨rfl, HM2.out.below⟩
 have CGD := HGD.out w1 HM1.out.below
 rw [hgd] at CGD
 rw [Bool.and_eq_true, decide_eq_true_eq] at hgd
 have hgl : g.ns.length ≤ 200 := by have := g.great_len; omega
 have hgr : g.great ≤ 300 := by omega
 have hgw := great_weightC hgr
 clear hgd hgr
 refine CGD.mono ?_
 rintro e w2 ⟨rfl, b2⟩
 clear g0 g1 CGD
 have M2 := HM1.out.quiet b2
 obtain ⟨g0, g1⟩ := M2.two 0 rfl
 have HM2 := Tre.hid M2
 clear M2 b2
 go_wp2_with fail
 refine (HCK.out w2 HM2.out.below).mono ?_
 rintro e w3 ⟨rfl, b3⟩
 clear g0 g1
 have M3 := HM2.out.quiet b3
 obtain ⟨g0, g1⟩ := M3.two 0 rfl
 have HM3 := Tre.hid M3
 clear M3 b3 HM2
 by_cases c0 : g.checkC = 0
 ·have C0 := Tre.hid c0
  rw [c0]
  have OG := Tre.hid (Graph.ok_of c0)
  obtain ⟨b1, o1, ea, _⟩ := HG.out.at_ 0 (g.ns[0]'(by have := OG.out.root1; omega)) (List.getElem?_eq_getElem _)
  subst ea
  have hcl := copies_len_le g []
  have hfw := fresh_weight g []
  have hflen : (g.freshG []).ns.length = g.ns.length + (g.copiesL []).length := Graph.fresh_len
  have hs : g.ns.length + (g.copiesL []).length ≤ 1048576 := by omega
  have CFK := Tre.hid (Graph.fresh_check (mono := []) c0 hs)
  have HTW := Tre.hid (fresh_twin c0 hs)
  have HRT := Tre.hid (fresh_root_lt c0 hs)
  have HOLD : Hid (∀ i, i < g.ns.length → (g.freshG []).nd i = g.nd i) := fun i hi => Graph.fresh_old hi
  have HRI : Hid ((g.freshG []).root = (((g.freshG []).root.toNat : Nat) : Int)) := by have := (Graph.ok_of CFK.out).root0; show _ = _; omega
  have HGI : Hid (g.root = ((g.root.toNat : Nat) : Int)) := by have := OG.out.root0; show _ = _; omega
  have hc2 := copies_len_le (g.freshG []) []
  have hs2 : (g.freshG []).ns.length + ((g.freshG []).copiesL []).length ≤ 1048576 := by omega
  have HSM2 := Tre.hid (fresh_same_mono (mono := []) CFK.out (by simp) hs2)
  have hfw2 := fresh_weight (g.freshG []) []
  have HCF := Tre.hid (fresh_ok (some ⟨b1, o1, none⟩) ca g none 0 [] w3 (HG.out.below HM3.out.below) C0.out (by omega) (row_none _ _) (by simp) (by simp) (HM.out.below HM3.out.below) hs)
  have hwd := wide_weight (g.freshG [])
  clear hs hs2 c0
  generalize origF g.ns.length (g.copiesL []) = orig at *
  generalize hf : g.freshG [] = f at *
  clear hf
  go_wp2_with fail
  refine HCF.out.mono ?_
  rintro e w4 ⟨vF, ds, rfl, hds, m4⟩
  have M4 := HM3.out.call m4
  obtain ⟨aF, cF, rfl, _⟩ := M4.val 0 rfl
  have HLN : Hid (f.ns.length = ds.length) := by show _ = _; rw [← hds, List.length_map]
  have HDS := Tre.hid hds
  have M5 := M4.allocR #[.slice aF ds.length cF, .int .i64 f.root] 24
  have NF := nodes_read (M5.at_ 1 rfl) (M5.at_ 2 rfl)
  rw [hds] at NF
  obtain ⟨b2, o2, ea, _⟩ := NF.at_ 0 (f.ns[0]'(by have := HRT.out.1; omega)) (List.getElem?_eq_getElem _)
  subst ea
  have HNF := Tre.hid NF
  have CF2 := fresh_ok (some ⟨b2, o2, none⟩) cF f none 0 [] _ NF CFK.out (by omega) (row_none _ _) (by simp) (by simp) (HM.out.below M5.below) (by omega)
  rw [HLN.out] at CF2
  have HCF2 := Tre.hid CF2
  obtain ⟨b5, hb5⟩ : ∃ b5 : Nat, w4.heap.size = b5 := ⟨_, rfl⟩
  rw [hb5] at M5
  obtain ⟨w5, hw5⟩ : ∃ w5 : World, w4.alloc (.cells #[.slice (some ⟨b2, o2, none⟩) ds.length cF, .int .i64 f.root] 24) = w5 := ⟨_, rfl⟩
  rw [hw5] at M5 HNF HCF2
  obtain ⟨g0, g1⟩ := M5.two 3 rfl
  obtain ⟨q0, q1⟩ := M5.two 0 rfl
  have HM5 := Tre.hid M5
  clear m4 M4 M5 hds NF CF2 HCF HM3
  go_wp2_with fail
  refine HCF2.out.mono ?_
  rintro e w6 ⟨vA, da, rfl, hda, m6⟩
  have M6 := HM5.out.call m6
  obtain ⟨aA, cA, rfl, _⟩ := M6.val 0 rfl
  have HLA : Hid ((f.freshG []).ns.length = da.length) := by show _ = _; rw [← hda, List.length_map]
  have HDA := Tre.hid hda
  have M7 := M6.allocR #[.slice aA da.length cA, .int .i64 (f.freshG []).root] 24
  have NF7 := HNF.out.below (m6.below.trans (((Below.refl w6.heap.size w6).alloc (Nat.le_refl _) (.cells #[.slice aA da.length cA, .int .i64 (f.freshG []).root] 24)).mono m6.below.size))
  obtain ⟨b7, hb7⟩ : ∃ b7 : Nat, w6.heap.size = b7 := ⟨_, rfl⟩
  rw [hb7] at M7
  obtain ⟨w7, hw7⟩ : ∃ w7 : World, w6.alloc (.cells #[.slice aA da.length cA, .int .i64 (f.freshG []).root] 24) = w7 := ⟨_, rfl⟩
  rw [hw7] at M7 NF7
  obtain ⟨g0, g1⟩ := M7.two 6 rfl
  obtain ⟨q0, q1⟩ := M7.two 3 rfl
  have M8 := M7.allocRow #[.int .i64 f.root, .int .i64 g.root] 34 2 1 (by unfold maxLen; omega) rfl
  have NF8 := NF7.below ((Below.refl w7.heap.size w7).alloc (Nat.le_refl _) (.cells #[.int .i64 f.root, .int .i64 g.root] 34))
  have CU := unify_ok HTW.out (f.root.toNat, g.root.toNat) ⟨HRT.out.1, HRT.out.2.1⟩ HRT.out.2.2 b2 o2 cF w7.heap.size 1 _ NF8 (by omega) (by omega) (by omega) (HM.out.below M8.below) (by
   have h := nrowS (M8.row 0 rfl)
   have e1 := HRI.out
   have e2 := HGI.out
   have e3 : ([en (f.root.toNat, g.root.toNat).1, en (f.root.toNat, g.root.toNat).2] : List Value) = [.int .i64 f.root, .int .i64 g.root] := by
    show [Value.int .i64 ((f.root.toNat : Nat) : Int), Value.int .i64 ((g.root.toNat : Nat) : Int)] = _
    rw [← e1, ← e2]
   rw [e3]
   exact h)
  rw [HLN.out] at CU
  have HCU := Tre.hid CU
  have HNF8 := Tre.hid NF8
  have HM8 := Tre.hid M8
  clear M6 M7 M8 hda NF7 NF8 CU m6 hb5 hw5 HM5 HCF2
  go_wp2_with fail
  clear hb7 hw7
  refine HCU.out.mono ?_
  rintro e w9 ⟨on, rank, has, aU, cU, vR, du, rfl, hsi, hdu, m9⟩
  have hus := hsi.u_same HTW.out rfl C0.out rfl (fun i hi => HOLD.out i hi)
  have huw := hsi.u_weight HTW.out
  have HUS := Tre.hid hus
  have M9 := HM8.out.call m9
  have HLU : Hid ((unifG f on has).ns.length = du.length) := by show _ = _; rw [← hdu, List.length_map]
  have M10 := M9.allocR #[.slice aU du.length cU, .int .i64 (unifG f on has).root] 24
  have NU := nodes_read (M10.at_ 1 rfl) (M10.at_ 2 rfl)
  rw [hdu] at NU
  have NF9 := HNF8.out.below (m9.below.trans (((Below.refl w9.heap.size w9).alloc (Nat.le_refl _) (.cells #[.slice aU du.length cU, .int .i64 (unifG f on has).root] 24)).mono m9.below.size))
  generalize unifG f on has = u at *
  obtain ⟨b10, hb10⟩ : ∃ b10 : Nat, w9.heap.size = b10 := ⟨_, rfl⟩
  rw [hb10] at M10
  obtain ⟨w10, hw10⟩ : ∃ w10 : World, w9.alloc (.cells #[.slice aU du.length cU, .int .i64 u.root] 24) = w10 := ⟨_, rfl⟩
  rw [hw10] at M10 NU NF9
  have NA := nodes_read (M10.at_ 5 rfl) (M10.at_ 6 rfl)
  rw [HDA.out] at NA
  obtain ⟨g0, g1⟩ := M10.two 10 rfl
  obtain ⟨q0, q1⟩ := M10.two 7 rfl
  obtain ⟨p0, p1⟩ := M10.two 4 rfl
  obtain ⟨r0, r1⟩ := M10.two 0 rfl
  have CS1 := same_any (some ⟨b2, o2, none⟩) aA cF cA f (f.freshG []) w10 NF9 NA (by omega) (by omega) (HM.out.below M10.below)
  rw [HLN.out, HLA.out, Tre.sameB_true HSM2.out.symm] at CS1
  have HCS1 := Tre.hid CS1
  have HNU := Tre.hid NU
  have HM10 := Tre.hid M10
  have huw2 : u.weight ≤ 2097152 := by omega
  clear hsi hdu m9 M9 M10 NU NF9 NA CS1 hus huw HM8 HCU HNF8
  go_wp2_with fail
  clear hb10 hw10
  refine HCS1.out.mono ?_
  rintro e w11 ⟨rfl, b11⟩
  have M11 := HM10.out.quiet b11
  obtain ⟨g0, g1⟩ := M11.two 10 rfl
  obtain ⟨r0, r1⟩ := M11.two 0 rfl
  have CS2 := same_any aU (some ⟨b1, o1, none⟩) cU ca u g w11 (HNU.out.below b11) (HG.out.below M11.below) huw2 (by omega) (HM.out.below M11.below)
  rw [HLU.out, Tre.sameB_true HUS.out] at CS2
  have HCS2 := Tre.hid CS2
  have HM11 := Tre.hid M11
  clear b11 M11 CS2 p0 p1 q0 q1 HM10
  go_wp2_with fail
  refine HCS2.out.mono ?_
  rintro e w12 ⟨rfl, b12⟩
  have HM12 := Tre.hid (HM11.out.quiet b12)
  clear b12
  go_wp2_with fail
  go_ret
  exact ⟨rfl, HM12.out.below⟩
 ·have u0 : (g.checkC != 0) = true := by simp [c0]
  clear c0
  go_wp2_with fail
  go_ret
  exact ⟨rfl, HM3.out.below⟩
end Go.Proofs.YtlkfhbmjemjohaaGreatDoor.sol
namespace Go.Tre
open Go.RowKit Go.ChangeShapes Go.Deep
theorem addr_plain {w : World} {a : Addr} {j : Nat} {u : Value} (h : w.cell? (a.add j) = some u) : (∃ b off, a = ⟨b, off, none⟩) ∨ 0 < j := by
 by_cases hj : j = 0
 ·subst hj
  left
  obtain ⟨b, off, s⟩ := a
  simp [Addr.add, World.cell?] at h
  split at h
  ·by_cases hs : s = none
   ·subst hs; exact ⟨_, _, rfl⟩
   ·have : s.isSome = true := Option.isSome_iff_ne_none.2 hs
    simp [this] at h
  ·cases h
 ·exact .inr (by omega)
theorem add_plain (b off j : Nat) : (⟨b, off, none⟩ : Addr).add j = ⟨b, off + j, none⟩ := by
 unfold Addr.add
 by_cases h : j = 0 <;> simp [h]
theorem row_of {w : World} {a : Addr} {sz n : Nat} {cs : List Value} (hl : cs.length = n * sz) (h : ∀ j u, cs[j]? = some u → w.cell? (a.add j) = some u) : Row w sz (some a) n cs := by
 refine ⟨hl, fun j u hu => ?_⟩
 obtain ⟨u0, h0⟩ : ∃ u0, cs[0]? = some u0 := ⟨cs[0]'(by have := (List.getElem?_eq_some_iff.1 hu).1; omega), List.getElem?_eq_getElem _⟩
 rcases addr_plain (h 0 u0 h0) with ⟨b, off, rfl⟩ | h'
 ·refine ⟨b, off, rfl, ?_⟩
  have := h j u hu
  rwa [add_plain] at this
 ·omega
theorem getD_map {α : Type} (f : α → Value) (l : List α) (d : α) {n j : Nat} {u : Value} (h : ((l.take n).map f)[j]? = some u) : j < l.length ∧ u = f (l.getD j d) := by
 rw [List.getElem?_map] at h
 obtain ⟨x, hx, rfl⟩ := Option.map_eq_some_iff.1 h
 rw [List.getElem?_take] at hx
 split at hx
 ·have hl := (List.getElem?_eq_some_iff.1 hx).1
  exact ⟨hl, by rw [List.getD_eq_getElem?_getD, hx]; rfl⟩
 ·cases hx

section
variable {P : Program} {H : Type} {enc : TypeId × Value → H} {w : World} {base : Nat} {sp : Nat → Bool} {held : Bool}
theorem open_ints' {t e : TypeId} {fuel : Nat} {cs : List Value} {x : DataW H × List MemPlace} (ht : P.underlying t = some (.slice e)) (he : P.underlying e = some (.int .i64)) (hc : P.cellsOf e = 1) (h : DataW.trod enc P w base sp held fuel t cs = some x) :
  ∃ (a : Option Addr) (cap : Nat) (xs : List Int), cs = [.slice a xs.length cap] ∧ IntsAt w a xs ∧ xs.length ≤ cap ∧ (x.1 = .nil ∧ xs = [] ∨ ∃ r, x.1 = .slice (xs.map fun n => .lit (.int .i64 n)) r) := by
 rcases open_ints ht he hc h with ⟨h1, h2⟩ | ⟨a, len, cap, zs, h1, _, h3, _, h5, h6, h7, _⟩
 ·exact ⟨none, 0, [], h1, ⟨rfl, fun j u hu => by simp at hu⟩, Nat.le_refl _, .inl ⟨by rw [h2], rfl⟩⟩
 ·have hl : (zs.take len).length = len := by rw [List.length_take, h5]; split <;> omega
  refine ⟨some a, cap, zs.take len, by rw [hl]; exact h1, row_of (by simp) (fun j u hu => ?_), by rw [hl]; exact h3, .inr ⟨_, by rw [h6]; rfl⟩⟩
  obtain ⟨hj, rfl⟩ := getD_map _ zs 0 hu
  exact h7 j hj
theorem open_strs' {t e : TypeId} {fuel : Nat} {cs : List Value} {x : DataW H × List MemPlace} (ht : P.underlying t = some (.slice e)) (he : P.underlying e = some .string) (hc : P.cellsOf e = 1) (h : DataW.trod enc P w base sp held fuel t cs = some x) :
  ∃ (a : Option Addr) (cap : Nat) (xs : List ByteArray), cs = [.slice a xs.length cap] ∧ StrsAt w a xs ∧ xs.length ≤ cap ∧ (x.1 = .nil ∧ xs = [] ∨ ∃ r, x.1 = .slice (xs.map fun s => .lit (.string s.data.toList)) r) := by
 rcases open_strings ht he hc h with ⟨h1, h2⟩ | ⟨a, len, cap, zs, h1, _, h3, _, h5, h6, h7, _⟩
 ·exact ⟨none, 0, [], h1, ⟨rfl, fun j u hu => by simp at hu⟩, Nat.le_refl _, .inl ⟨by rw [h2], rfl⟩⟩
 ·have hl : (zs.take len).length = len := by rw [List.length_take, h5]; split <;> omega
  refine ⟨some a, cap, zs.take len, by rw [hl]; exact h1, row_of (by simp) (fun j u hu => ?_), by rw [hl]; exact h3, .inr ⟨_, by rw [h6]; rfl⟩⟩
  obtain ⟨hj, rfl⟩ := getD_map _ zs ByteArray.empty hu
  exact h7 j hj
end
end Go.Tre
namespace Go.Proofs.YtlkfhbmjemjohaaGreatDoor.gr
open Go.RowKit Go.Maps Go.Tre lex Go.ChangeShapes Go.Deep
set_option maxRecDepth 100000
theorem bulk_ints {H : Type} : ∀ xs : List Int, Rows.uptoBulkAll (xs.map fun n => DataW.lit (H := H) (.int .i64 n)) = xs.length
 | [] => rfl
 | x :: r => by rw [List.map_cons]; simp only [Rows.uptoBulkAll, bulk_ints r, Rows.uptoBulk, List.length_cons]; omega
theorem bulk_strs {H : Type} : ∀ xs : List ByteArray, Rows.uptoBulkAll (xs.map fun s => DataW.lit (H := H) (.string s.data.toList)) = (xs.map fun s => s.size + 1).sum
 | [] => rfl
 | x :: r => by rw [List.map_cons]; simp only [Rows.uptoBulkAll, bulk_strs r, Rows.uptoBulk, List.map_cons, List.sum_cons]; rfl
theorem cellsInt : Tryz.prog.cellsOf 3 = 1 := by kernel_rfl
theorem cellsStr : Tryz.prog.cellsOf 9 = 1 := by kernel_rfl
theorem bulk_map {H : Type} (D : Nat → DataW H) (W : Nat → Nat) : ∀ (l : List Nat), (∀ i ∈ l, W i ≤ Rows.uptoBulk (D i)) → (l.map W).sum ≤ Rows.uptoBulkAll (l.map D)
 | [], _ => by simp
 | i :: r, h => by
  have h1 := h i (by simp)
  have h2 := bulk_map D W r (fun j hj => h j (by simp [hj]))
  simp only [List.map_cons, List.sum_cons, Rows.uptoBulkAll]
  omega
theorem bulk_pos {H : Type} (d : DataW H) : 1 ≤ Rows.uptoBulk d := by unfold Rows.uptoBulk; split <;> omega
theorem maxAt_of {w : World} (h : w.ShapedOpen Tryz.prog) : MaxAt w :=
 Go.Proofs.cell_of_shapedOpen_int (zero := #[.int .i64 0]) (t := 3) h (of_decide_eq_true (by kernel_rfl)) (by kernel_rfl) rfl (by kernel_rfl) (by kernel_rfl) Tryz.underlying3

end Go.Proofs.YtlkfhbmjemjohaaGreatDoor.gr
namespace Go.Proofs.YtlkfhbmjemjohaaGreatDoor.gr
open Go.RowKit Go.Maps Go.Tre lex Go.ChangeShapes Go.Deep
set_option maxRecDepth 100000
theorem cellsNode : Tryz.prog.cellsOf 40 = 5 := by kernel_rfl
theorem cellsNodes : Tryz.prog.cellsOf 22 = 1 := by kernel_rfl
section
variable {H : Type} {enc : TypeId × Value → H} {w : World} {base : Nat} {sp : Nat → Bool} {held : Bool}
theorem open_node {fuel : Nat} {cs : List Value} {x : DataW H × List MemPlace} (h : DataW.trod enc Tryz.prog w base sp held fuel 40 cs = some x) :
  ∃ (n : Tre.Node) (aa : Option Addr) (ca : Nat) (al : Option Addr) (cl : Nat), cs = [.int .i64 n.kind, .string n.name, .slice aa n.args.length ca, .slice al n.labels.length cl, .bool n.isOpen] ∧ IntsAt w aa n.args ∧ StrsAt w al n.labels ∧ n.args.length ≤ ca ∧ n.labels.length ≤ cl ∧ n.weight + 5 ≤ Rows.uptoBulk x.1 := by
 obtain ⟨xs, n, _, rfl, hl, hn, hf⟩ := DataW.trod_struct Tryz.underlying40 h
 rw [cellsNode] at hl
 match cs, hl, xs, hn with
 | [c0, c1, c2, c3, c4], _, [y0, y1, y2, y3, y4], _ =>
  have f0 := hf 0 _ rfl
  have f1 := hf 1 _ rfl
  have f2 := hf 2 _ rfl
  have f3 := hf 3 _ rfl
  have f4 := hf 4 _ rfl
  simp only [zqc, zqb] at f0 f1 f2 f3 f4
  obtain ⟨k, e0, z0, _⟩ := DataW.trod_int Tryz.underlying3 f0
  obtain ⟨s, e1, z1, _⟩ := DataW.trod_string Tryz.underlying9 f1
  obtain ⟨aa, ca, args, e2, r2, l2, z2⟩ := open_ints' Tryz.underlying31 Tryz.underlying3 cellsInt f2
  obtain ⟨al, cl, labels, e3, r3, l3, z3⟩ := open_strs' Tryz.underlying38 Tryz.underlying9 cellsStr f3
  obtain ⟨b, e4, z4⟩ := DataW.trod_bool Tryz.underlying4 f4
  cases e0; cases e1; cases e2; cases e3; cases e4
  refine ⟨⟨k, s, args, labels, b⟩, aa, ca, al, cl, rfl, r2, r3, l2, l3, ?_⟩
  have q2 : args.length + 1 ≤ Rows.uptoBulk y2.1 := by
   rcases z2 with ⟨z, rfl⟩ | ⟨r, z⟩
   ·rw [z]; simp [Rows.uptoBulk]
   ·rw [z]; simp only [Rows.uptoBulk, bulk_ints]; omega
  have q3 : (labels.map fun s => s.size + 1).sum + 1 ≤ Rows.uptoBulk y3.1 := by
   rcases z3 with ⟨z, rfl⟩ | ⟨r, z⟩
   ·rw [z]; simp [Rows.uptoBulk]
   ·rw [z]; simp only [Rows.uptoBulk, bulk_strs]; omega
  have q0 : 1 ≤ Rows.uptoBulk y0.1 := by rw [z0]; exact Nat.le_refl _
  have q4 : 1 ≤ Rows.uptoBulk y4.1 := by rw [z4]; exact Nat.le_refl _
  have q1 : s.size + 1 ≤ Rows.uptoBulk y1.1 := by rw [z1]; simp only [Rows.uptoBulk]; exact Nat.le_refl _
  simp only [List.map_cons, List.map_nil, Rows.uptoBulk, Rows.uptoBulkAll]
  unfold Tre.Node.weight
  simp only
  omega
theorem open_nodes {fuel : Nat} {cs : List Value} {x : DataW H × List MemPlace} (h : DataW.trod enc Tryz.prog w base sp held fuel 22 cs = some x) :
  ∃ (a : Option Addr) (cap : Nat) (ns : List Tre.Node), cs = [.slice a ns.length cap] ∧ NodesAt w a ns ∧ ns.length ≤ cap ∧ (ns.map Tre.Node.weight).sum + 5 * ns.length + 1 ≤ Rows.uptoBulk x.1 := by
 rcases open_slice Tryz.underlying22 h with ⟨h1, h2⟩ | ⟨a, len, cap, m, fu, D, Pl, h1, _, h3, _, h5, rfl, h7⟩
 ·exact ⟨none, 0, [], h1, ⟨fun k n hn => by simp at hn⟩, Nat.le_refl _, by rw [h2]; simp [Rows.uptoBulk]⟩
 ·rw [cellsNode] at h7
  have hm : len ≤ m := by rw [h5]; split <;> omega
  have step : ∀ i, i < len → ∃ n : Tre.Node, n.weight + 5 ≤ Rows.uptoBulk (D i) ∧ ∃ b off, a = ⟨b, off, none⟩ ∧ NodeAt w b (off + i * 5) n := by
   intro i hi
   obtain ⟨cs', hc, ht⟩ := h7 i (by omega)
   obtain ⟨n, aa, ca, al, cl, e, r2, r3, l2, l3, hw⟩ := open_node ht
   obtain ⟨_, _, hcell⟩ := World.cells?_some hc
   subst e
   have k0 : w.cell? ((a.add (i * 5)).add 0) = some (.int .i64 n.kind) := hcell 0 (by omega)
   have hp : ∃ b off, a = ⟨b, off, none⟩ := by
    by_cases hi0 : i = 0
    ·subst hi0
     rcases addr_plain k0 with h' | h'
     ·obtain ⟨b, off, e⟩ := h'
      exact ⟨b, off, by simpa [Addr.add] using e⟩
     ·omega
    ·obtain ⟨cs0, hc0, ht0⟩ := h7 0 (by omega)
     obtain ⟨n0, aa0, ca0, al0, cl0, e0, _⟩ := open_node ht0
     obtain ⟨_, _, hcell0⟩ := World.cells?_some hc0
     subst e0
     have k00 : w.cell? ((a.add (0 * 5)).add 0) = some (.int .i64 n0.kind) := hcell0 0 (by omega)
     rcases addr_plain k00 with h' | h'
     ·obtain ⟨b, off, e⟩ := h'
      exact ⟨b, off, by simpa [Addr.add] using e⟩
     ·omega
   obtain ⟨b, off, rfl⟩ := hp
   have g : ∀ j, j < 5 → w.cell? ⟨b, off + i * 5 + j, none⟩ = ([.int .i64 n.kind, .string n.name, .slice aa n.args.length ca, .slice al n.labels.length cl, .bool n.isOpen] : List Value)[j]? := fun j hj => by
    have := hcell j hj
    rwa [add_plain, add_plain] at this
   exact ⟨n, hw, b, off, rfl, aa, ca, al, cl, g 0 (by omega), g 1 (by omega), g 2 (by omega), g 3 (by omega), g 4 (by omega), r2, r3, l2, l3⟩
  obtain ⟨f, hf⟩ : ∃ f : Nat → Tre.Node, ∀ i, i < len → (f i).weight + 5 ≤ Rows.uptoBulk (D i) ∧ ∃ b off, a = ⟨b, off, none⟩ ∧ NodeAt w b (off + i * 5) (f i) :=
   ⟨fun i => if h : i < len then Classical.choose (step i h) else ⟨0, ByteArray.empty, [], [], false⟩, fun i hi => by simp only [hi, dif_pos]; exact Classical.choose_spec (step i hi)⟩
  have hl : ((List.range len).map f).length = len := by simp
  refine ⟨some a, cap, (List.range len).map f, by rw [hl]; exact h1, ⟨fun k n hn => ?_⟩, by rw [hl]; exact h3, ?_⟩
  ·rw [List.getElem?_map] at hn
   obtain ⟨i, hi, rfl⟩ := Option.map_eq_some_iff.1 hn
   have hk : k < len := by have := (List.getElem?_eq_some_iff.1 hi).1; simpa using this
   rw [List.getElem?_range hk] at hi
   cases hi
   obtain ⟨_, b, off, e, hn⟩ := hf k hk
   exact ⟨b, off, by rw [e], hn⟩
  ·rw [List.map_map]
   have h1 := bulk_map D (fun i => (f i).weight + 5) (List.range len) (fun i hi => (hf i (List.mem_range.1 hi)).1)
   have h2 : ∀ l : List Nat, (l.map (Tre.Node.weight ∘ f)).sum + 5 * l.length = (l.map fun i => (f i).weight + 5).sum := fun l => by
    induction l with
    | nil => rfl
    | cons i l ih => simp only [List.map_cons, List.sum_cons, List.length_cons, Function.comp_apply]; omega
   have h3 := h2 (List.range len)
   rw [List.length_range] at h3
   rw [hl]
   simp only [Rows.uptoBulk]
   omega
theorem open_graph_at {cs : Array Value} {fuel : Nat} {d : DataW H} {ps : List MemPlace} (hf : DataW.trod enc Tryz.prog w base sp held fuel 24 cs.toList = some (d, ps)) :
  ∃ (a : Option Addr) (cap : Nat) (g : Tre.Graph), cs = #[.slice a g.ns.length cap, .int .i64 g.root] ∧ NodesAt w a g.ns ∧ g.weight + 5 * g.ns.length + 3 ≤ Rows.uptoBulk d := by
 obtain ⟨y0, y1, n, e, hl, f0, f1⟩ := trod_struct2 Tryz.underlying24 hf
 have hl2 : cs.toList.length = 2 := hl.trans (by kernel_rfl)
 obtain ⟨c0, c1, ec⟩ : ∃ c0 c1, cs.toList = [c0, c1] := by
  match h : cs.toList, hl2 with
  | [c0, c1], _ => exact ⟨c0, c1, rfl⟩
 rw [ec] at f0 f1
 simp only [cellsNodes, cellsInt, List.drop_zero, List.drop_succ_cons, List.take_succ_cons, List.take_zero] at f0 f1
 obtain ⟨a, cap, ns, e0, r0, l0, w0⟩ := open_nodes f0
 obtain ⟨k, e1, z1, _⟩ := DataW.trod_int Tryz.underlying3 f1
 cases e0; cases e1
 refine ⟨a, cap, ⟨ns, k⟩, ?_, r0, ?_⟩
 ·rw [← Array.toArray_toList (xs := cs), ec]
 ·have : d = .agg [y0.1, y1.1] := congrArg Prod.fst e
  rw [this]
  simp only [Rows.uptoBulk, Rows.uptoBulkAll]
  have hb := bulk_pos y1.1
  show (ns.map Tre.Node.weight).sum + 5 * ns.length + 3 ≤ _
  omega
theorem open_graph4 {r : Reach} {b0 : Nat} {v : Value} {d : DataW H} {ps : List MemPlace} (hval : Value.okWide Tryz.prog w r b0 24 v) (hd : DataW.Trod enc Tryz.prog w base sp held 24 v d ps) :
  ∃ (a : Option Addr) (cap : Nat) (g : Tre.Graph), v = .agg #[.slice a g.ns.length cap, .int .i64 g.root] ∧ NodesAt w a g.ns ∧ g.weight + 5 * g.ns.length + 3 ≤ Rows.uptoBulk d := by
 obtain ⟨fuel, hf⟩ := hd
 have hv : ∃ cs : Array Value, v = .agg cs := by
  unfold Value.okWide at hval
  rw [Tryz.underlying24] at hval
  obtain ⟨cs, e, _⟩ := hval
  exact ⟨cs, e⟩
 obtain ⟨cs, rfl⟩ := hv
 have hcs : (Value.agg cs).cells.toList = cs.toList := rfl
 rw [hcs] at hf
 obtain ⟨a, cap, g, e, h1, h2⟩ := open_graph_at hf
 exact ⟨a, cap, g, by rw [e], h1, h2⟩
theorem open_graph {r : Reach} {b0 : Nat} {v : Value} {d : DataW H} {ps : List MemPlace} (hval : Value.okWide Tryz.prog w r b0 24 v) (hd : DataW.Trod enc Tryz.prog w base sp held 24 v d ps) :
  ∃ (a : Option Addr) (cap : Nat) (g : Tre.Graph), v = .agg #[.slice a g.ns.length cap, .int .i64 g.root] ∧ NodesAt w a g.ns ∧ g.weight ≤ Rows.uptoBulk d := by
 obtain ⟨a, cap, g, h1, h2, h3⟩ := open_graph4 hval hd
 exact ⟨a, cap, g, h1, h2, by omega⟩
end
end Go.Proofs.YtlkfhbmjemjohaaGreatDoor.gr
