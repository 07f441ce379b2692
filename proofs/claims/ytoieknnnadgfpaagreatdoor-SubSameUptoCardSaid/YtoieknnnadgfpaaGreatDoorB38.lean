/- SubSame: the walk. -/
import Derived.Test.YtoieknnnadgfpaaGreatDoorB36
import Derived.Test.YtoieknnnadgfpaaGreatDoorB37
import Derived.Test.YtoieknnnadgfpaaGreatDoorB00
import Derived.Test.YtoieknnnadgfpaaGreatDoorB06
import Derived.Test.YtoieknnnadgfpaaGreatDoorB08
import Derived.Test.YtoieknnnadgfpaaGreatDoorB09
import Derived.Deep.DeepCutAuto
import Derived.IntWalk
set_option linter.unusedVariables false
namespace Go.Tre
theorem cross_node_weight (g : Tre.Graph) (k : Nat) : (crossN g k).weight = (g.nd (k % g.ns.length)).weight := by
 unfold Node.weight crossN
 simp
theorem cross_weight (g : Tre.Graph) : (crossG g).weight = 2 * g.weight := by
 rw [g.weight_range]
 unfold Graph.weight crossG
 rw [List.map_map]
 have e : ∀ l : List Nat, l.map (Tre.Node.weight ∘ crossN g) = l.map (fun k => (g.nd (k % g.ns.length)).weight) := fun l => List.map_congr_left (fun k _ => cross_node_weight g k)
 show ((List.range (2 * g.ns.length)).map _).sum = _
 rw [e, Nat.two_mul, List.range_add, List.map_append, List.sum_append, List.map_map]
 have e1 : (List.range g.ns.length).map (fun k => (g.nd (k % g.ns.length)).weight) = (List.range g.ns.length).map (fun k => (g.nd k).weight) := List.map_congr_left (fun k hk => by rw [Nat.mod_eq_of_lt (List.mem_range.1 hk)])
 have e2 : (List.range g.ns.length).map ((fun k => (g.nd (k % g.ns.length)).weight) ∘ fun x => g.ns.length + x) = (List.range g.ns.length).map (fun k => (g.nd k).weight) := List.map_congr_left (fun k hk => by
  show (g.nd ((g.ns.length + k) % g.ns.length)).weight = _
  rw [Nat.add_mod_left, Nat.mod_eq_of_lt (List.mem_range.1 hk)])
 rw [e1, e2]
 omega
end Go.Tre
namespace Go.Proofs.YtoieknnnadgfpaaGreatDoor.gr
open Go.RowKit Go.Shelf Go.Maps Go.Tre lex
theorem below_below {w w1 w2 : World} (h : Below w.heap.size w w1) (k : Below w1.heap.size w1 w2) : Below w.heap.size w w2 := ((Mem.of_below h).quiet k).below
theorem infoI12 : (Tryz.prog.info? 3).map (fun i => (i.zero, i.size, i.bytes)) = some (some (.int .i64 0), 1, 8) := by kernel_rfl
set_option maxRecDepth 100000 in
set_option maxHeartbeats 16000000 in
theorem sameLaw (ag ah : Option Addr) (ca cb : Nat) (g h : Tre.Graph) (w : World) (hg : NodesAt w ag g.ns) (hh : NodesAt w ah h.ns) (wg : g.weight + 4 * g.ns.length ≤ 1048576) (wh : h.weight + 4 * h.ns.length ≤ 1048576) (E : LexEnv w) :
  Calls Tryz.prog 3 #[.agg #[.slice ag g.ns.length ca, .int .i64 g.root], .agg #[.slice ah h.ns.length cb, .int .i64 h.root]] w fun e w' => e = .returned (.bool true) ∧ Below w.heap.size w w' := by
 have M := ((Mem.nil w).allocR #[.slice ag g.ns.length ca, .int .i64 g.root] 24).allocR #[.slice ah h.ns.length cb, .int .i64 h.root] 24
 simp only [heapSize_alloc] at M
 have HM0 := Tre.hid M
 have HX := Tre.hid E.max
 have HG := Tre.hid hg
 have HH := Tre.hid hh
 have HAL := Tre.hid (alive12 _ (E.below M.below))
 clear E hg hh M
 go_enter Tryz.func3, Tryz.ntmps3
 go_wp2_with fail
 refine HAL.out.mono ?_
 rintro e w1 ⟨rfl, bq⟩
 have HM1 := Tre.hid (HM0.out.quiet bq)
 clear bq HAL HM0
 obtain ⟨g0, g1⟩ := HM1.out.two 1 rfl
 obtain ⟨h0, h1⟩ := HM1.out.two 0 rfl
 go_wp2_with fail
 refine (great.great ag ca g _ (by omega) (HG.out.below HM1.out.below)).mono ?_
 rintro e w2 ⟨rfl, bq⟩
 have HM2 := Tre.hid (HM1.out.quiet bq)
 clear bq HM1 g0 g1 h0 h1
 obtain ⟨g0, g1⟩ := HM2.out.two 1 rfl
 obtain ⟨h0, h1⟩ := HM2.out.two 0 rfl
 by_cases tg : (200 : Int) < g.great
 ·have t := tg
  go_wp2_with fail
  go_ret
  exact ⟨rfl, HM2.out.below⟩
 have ng : g.ns.length ≤ 200 := by have := g.great_len; omega
 go_wp2_with fail
 refine (great.great ah cb h _ (by omega) (HH.out.below HM2.out.below)).mono ?_
 rintro e w3 ⟨rfl, bq⟩
 have HM3 := Tre.hid (HM2.out.quiet bq)
 clear bq HM2 g0 g1 h0 h1
 obtain ⟨g0, g1⟩ := HM3.out.two 1 rfl
 obtain ⟨h0, h1⟩ := HM3.out.two 0 rfl
 by_cases th : (200 : Int) < h.great
 ·have t := th
  go_wp2_with fail
  go_ret
  exact ⟨rfl, HM3.out.below⟩
 have nh : h.ns.length ≤ 200 := by have := h.great_len; omega
 go_wp2_with fail
 refine (check_any ag ca g _ (HG.out.below HM3.out.below) (by omega) (HX.out.below HM3.out.below)).mono ?_
 rintro e w4 ⟨rfl, bq⟩
 have HM4 := Tre.hid (HM3.out.quiet bq)
 clear bq HM3 g0 g1 h0 h1
 obtain ⟨g0, g1⟩ := HM4.out.two 1 rfl
 obtain ⟨h0, h1⟩ := HM4.out.two 0 rfl
 by_cases t3 : g.checkC ≠ 0
 ·have t := not_ok t3
  go_wp2_with fail
  go_ret
  exact ⟨rfl, HM4.out.below⟩
 have cg : g.checkC = 0 := by omega
 have u3 : (g.checkC != 0) = false := by rw [cg]; rfl
 have CG := Tre.hid cg
 clear cg t3
 go_wp2_with fail
 refine (check_any ah cb h _ (HH.out.below HM4.out.below) (by omega) (HX.out.below HM4.out.below)).mono ?_
 rintro e w5 ⟨rfl, bq⟩
 have HM6 := Tre.hid (HM4.out.quiet bq)
 clear bq HM4 g0 g1 h0 h1
 by_cases t3 : h.checkC ≠ 0
 ·have t := not_ok t3
  go_wp2_with fail
  go_ret
  exact ⟨rfl, HM6.out.below⟩
 have ch : h.checkC = 0 := by omega
 have u4 : (h.checkC != 0) = false := by rw [ch]; rfl
 have CH := Tre.hid ch
 clear ch t3
 have HCG : Hid (∀ W, Below w.heap.size w W → Calls Tryz.prog 11 #[.agg #[.slice ag g.ns.length ca, .int .i64 g.root]] W fun e w' => ∃ v ds, e = .returned (.agg #[v, .int .i64 0]) ∧ ds.map NodeV.n = g.closeG.ns ∧ Mem W w' [nodesR v ds, kidsR ds]) := fun W hW =>
  close_any ag ca g W (HG.out.below hW) (by omega) (HX.out.below hW) CG.out
 have HCH : Hid (∀ W, Below w.heap.size w W → Calls Tryz.prog 11 #[.agg #[.slice ah h.ns.length cb, .int .i64 h.root]] W fun e w' => ∃ v ds, e = .returned (.agg #[v, .int .i64 0]) ∧ ds.map NodeV.n = h.closeG.ns ∧ Mem W w' [nodesR v ds, kidsR ds]) := fun W hW =>
  close_any ah cb h W (HH.out.below hW) (by omega) (HX.out.below hW) CH.out
 go_upto_region 5 with fail
 clear u3 u4
 refine wp_region_keep (S := (fun w' => w'.cell? ⟨w.heap.size, 0, none⟩ = some (.slice ag g.ns.length ca) ∧ w'.cell? ⟨w.heap.size, 1, none⟩ = some (.int .i64 g.root) ∧ w'.cell? ⟨w.heap.size + 1, 0, none⟩ = some (.slice ah h.ns.length cb) ∧ w'.cell? ⟨w.heap.size + 1, 1, none⟩ = some (.int .i64 h.root))) [7] (by kernel_rfl) ?_ (fun hH => ?_)
 ·exact ⟨HM6.out.drew.cell 1 rfl 0 rfl, HM6.out.drew.cell 1 rfl 1 rfl, HM6.out.drew.cell 0 rfl 0 rfl, HM6.out.drew.cell 0 rfl 1 rfl⟩
 have HC := Tre.hid HM6.out.drew
 generalize hq : World.drew _ = wq0 at HC hH ⊢
 clear hq
 try simp only [Act.put, Tre.qf, Tre.qg, Tre.qh]
 refine lTake (i := 0) (some 34) (v := ?_) (by rfl) (by kernel_rfl) (by kernel_rfl) (by kernel_rfl) (by kernel_rfl) (by kernel_rfl) (fun _ _ _ h => h) (by rfl) ?_ hH ?_
 rotate_left
 ·intro w hSw; (try dsimp only at hSw); simp only [Tre.qa, Tre.qc, Tre.qd, Tre.qe]; go_simp <;> with_reducible rfl
 try simp only [Act.put, Tre.qf, Tre.qg, Tre.qh]
 try simp only [Act.put, Tre.qf, Tre.qg, Tre.qh]
 refine lTake (i := 2) (some 36) (v := ?_) (by rfl) (by kernel_rfl) (by kernel_rfl) (by kernel_rfl) (by kernel_rfl) (by kernel_rfl) (fun _ _ _ h => h) (by rfl) ?_ hH ?_
 rotate_left
 ·intro w hSw; (try dsimp only at hSw); simp only [Tre.qa, Tre.qb, Tre.qc, Tre.qd, Tre.qe]; go_simp <;> with_reducible rfl
 try simp only [Act.put, Tre.qf, Tre.qg, Tre.qh]
 try simp only [Act.put, Tre.qf, Tre.qg, Tre.qh]
 refine with_G (G0 := wpAnyL _ _ _ _ _ _) ?_
 intro G hG a0 hA
 have Z0 : Kept (∀ (aA : Option Addr) (cA : Nat) (dA : List NodeV) (aB : Option Addr) (cB : Nat) (dB : List NodeV) (b5 : Nat) (b6 : Nat) (wq : World), Hid (Mem w wq [cellsR b5 24 #[.slice aA dA.length cA, .int .i64 0], cellsR b6 24 #[.slice aB dB.length cB, .int .i64 0], nodesR (.slice aA dA.length cA) dA, kidsR dA, factR (dA.map NodeV.n = g.closeG.ns), nodesR (.slice aB dB.length cB) dB, kidsR dB, factR (dB.map NodeV.n = h.closeG.ns), cellsR (w.heap.size + 1) 24 #[.slice ah h.ns.length cb, .int .i64 h.root], cellsR w.heap.size 24 #[.slice ag g.ns.length ca, .int .i64 g.root]]) → G 0 (bt 8 255) ((((a0.put (some 35) (.agg #[.slice aA dA.length cA, .int .i64 0])).put (some 37) (.agg #[.slice aB dB.length cB, .int .i64 0])).put (some 5) (.pointer (some ⟨b5, 0, none⟩))).put (some 6) (.pointer (some ⟨b6, 0, none⟩))) wq) := ⟨by
  intro aA cA dA aB cB dB b5 b6 wq HC
  refine into_G hG ?_
  rw [hA.out]
  try simp only [Act.put, Tre.qf, Tre.qg, Tre.qh]
  refine lDone (by kernel_rfl) ?_
  clear hA hG
  obtain ⟨w5, hw5⟩ : ∃ w5 : World, wq = w5 := ⟨_, rfl⟩
  rw [hw5] at HC ⊢
  clear hw5
  have HBW := Tre.hid HC.out.below
  have HX5 := Tre.hid (HX.out.below HC.out.below)
  have fa : dA.map NodeV.n = g.closeG.ns := HC.out.at_ 4 rfl
  have fb : dB.map NodeV.n = h.closeG.ns := HC.out.at_ 7 rfl
  have hA := nodes_read (HC.out.at_ 2 rfl) (HC.out.at_ 3 rfl)
  have hB := nodes_read (HC.out.at_ 5 rfl) (HC.out.at_ 6 rfl)
  rw [fa] at hA
  rw [fb] at hB
  obtain ⟨A, hAA⟩ : ∃ A : Tre.Graph, g.closeG = A := ⟨_, rfl⟩
  obtain ⟨B, hBB⟩ : ∃ B : Tre.Graph, h.closeG = B := ⟨_, rfl⟩
  have ca0 : A.checkC = 0 := by rw [← hAA]; exact close_ok CG.out
  have cb0 : B.checkC = 0 := by rw [← hBB]; exact close_ok CH.out
  have sa : A.Shut := by rw [← hAA]; exact close_shut CG.out
  have sb : B.Shut := by rw [← hBB]; exact close_shut CH.out
  have lenA : A.ns.length ≤ 200 := by rw [← hAA]; exact Nat.le_trans close_len ng
  have lenB : B.ns.length ≤ 200 := by rw [← hBB]; exact Nat.le_trans close_len nh
  have wA : A.weight ≤ 1048576 := by have := closeG_weight g; rw [hAA] at this; omega
  have wB : B.weight ≤ 1048576 := by have := closeG_weight h; rw [hBB] at this; omega
  have rA : A.root = 0 := by rw [← hAA]; rfl
  have rB : B.root = 0 := by rw [← hBB]; rfl
  rw [hAA] at hA fa
  rw [hBB] at hB fb
  have OA := Tre.hid (Graph.ok_of ca0)
  have hA0 : 0 < A.ns.length := by have h1 := OA.out.root0; have h2 := OA.out.root1; omega
  have hdA : dA.length = A.ns.length := by rw [← fa, List.length_map]
  have hdB : dB.length = B.ns.length := by rw [← fb, List.length_map]
  obtain ⟨gA, oA, rfl, hx0⟩ := hA.at_ 0 A.ns[0] (List.getElem?_eq_getElem hA0)
  obtain ⟨d0, hd0⟩ : ∃ d, dA[0]? = some d := ⟨_, List.getElem?_eq_getElem (by omega)⟩
  obtain ⟨gA', e0, _, _, hx1⟩ := HC.out.getRow 2 rfl 0 (u := .int .i64 d0.n.kind) ((cells_at dA 0 0 d0 hd0 (by omega)).trans rfl)
  clear hx1
  cases e0
  obtain ⟨n, hn⟩ : ∃ n : Nat, A.ns.length = n := ⟨_, rfl⟩
  have HGN := Tre.hid hn
  have hnl : n ≤ 200 := by omega
  have hn1 : 0 < n := by omega
  have P50 : Hid (w5.cell? ⟨b5, 0, none⟩ = some (.slice (some ⟨gA, 0, none⟩) n cA)) := by have h := HC.out.cell 0 rfl 0 rfl; rw [hdA, hn] at h; exact h
  have P51 : Hid (w5.cell? ⟨b5, 1, none⟩ = some (.int .i64 0)) := HC.out.cell 0 rfl 1 rfl
  have P60 : Hid (w5.cell? ⟨b6, 0, none⟩ = some (.slice aB dB.length cB)) := HC.out.cell 1 rfl 0 rfl
  have P61 : Hid (w5.cell? ⟨b6, 1, none⟩ = some (.int .i64 0)) := HC.out.cell 1 rfl 1 rfl
  have HA := Tre.hid hA
  have HBN := Tre.hid hB
  have HLB := Tre.hid hdB
  have CA := Tre.hid ca0
  have CB := Tre.hid cb0
  have SA := Tre.hid sa
  have SB := Tre.hid sb
  have RA := Tre.hid rA
  have RB := Tre.hid rB
  have WA := Tre.hid wA
  have WB := Tre.hid wB
  have LB := Tre.hid lenB
  obtain ⟨ji, K1, K2, K3, K4⟩ := info_parts infoI12
  have L1 := Tre.hid K1
  have L2 := Tre.hid K2
  have L3 := Tre.hid K3
  have L4 := Tre.hid K4
  obtain ⟨ni, I1, I2, I3, I4⟩ := info_parts infoN
  have J1 := Tre.hid I1
  have J2 := Tre.hid I2
  have J3 := Tre.hid I3
  have J4 := Tre.hid I4
  rw [hdA, hn]
  clear hd0
  clear HC fa fb hA hB hAA hBB ca0 cb0 sa sb lenA lenB wA wB rA rB hA0 hdA hdB hx0 hn K1 K2 K3 K4 I1 I2 I3 I4 CG CH HCG HCH HG HH HX HM6
  have p50 := P50.out
  have p51 := P51.out
  have h2n : (2 : Int) * (n : Int) ≤ 400 := by omega
  have MB := (Mem.nil w5).allocR #[.slice none 0 0, .int .i64 0] 24
  have HMB : Hid (Mem w5 (w5.alloc (.cells #[.slice none 0 0, .int .i64 0] 24)) [nodesR (.slice none 0 0) [], argsR [], cellsR w5.heap.size 24 #[.slice none 0 0, .int .i64 0]]) := MB.addMany.addNil 33 5
  clear MB
  go_wp2_with fail
  clear p50 p51
  generalize w5.alloc (.cells #[.slice none 0 0, .int .i64 0] 24) = wz at *
  generalize hb8 : w5.heap.size = b8 at HMB ⊢
  clear hb8
  go_loopw [46] (fun v46 wr => ∃ (k : Nat) (aN : Option Addr) (cN : Nat) (ds : List NodeV), k ≤ 2 * n ∧ v46 = .int .i64 (k : Int) ∧ Hid (ds.map NodeV.n = (List.range k).map (crossN A)) ∧ Hid (LabsOf w5 ds) ∧ Hid (Mem w5 wr [nodesR (.slice aN ds.length cN) ds, argsR ds, cellsR b8 24 #[.slice aN ds.length cN, .int .i64 0]]))
   (fun v46 _ => 2 * n - (intOf v46).toNat)
  case atStart => exact ⟨0, none, 0, [], Nat.zero_le _, rfl, rfl, fun d hd => by simp at hd, HMB.out⟩
  case round =>
   obtain ⟨k, aN, cN, ds, hk, rfl, hds, hLB, HQ⟩ := hrel
   have hd4 : ds.length ≤ 400 := by have := congrArg List.length hds.out; rw [List.length_map, List.length_map, List.length_range] at this; omega
   by_cases hlt : k < 2 * n
   ·obtain ⟨q, hq⟩ : ∃ q : Nat, k % n = q := ⟨_, rfl⟩
    have hkm : q < n := by rw [← hq]; exact Nat.mod_lt _ (by omega)
    have HKN : Hid ((k : Int).tmod (n : Int) = (q : Int)) := by show _ = _; rw [Int.tmod_eq_emod_of_nonneg (by omega), ← hq]; omega
    have hkg : q < A.ns.length := by rw [HGN.out]; exact hkm
    obtain ⟨gA2, oA2, e0, nx⟩ := HA.out.at_ q (A.nd q) (by rw [Graph.nd_eq hkg]; exact List.getElem?_eq_getElem hkg)
    cases e0
    rw [Nat.zero_add] at nx
    have hXw : (A.nd q).weight ≤ A.weight := by rw [Graph.nd_eq hkg]; exact node_weight (List.getElem_mem hkg)
    have hxa : (A.nd q).args.length ≤ (A.nd q).weight := by unfold Node.weight; omega
    have hxw : (A.nd q).args.length ≤ 1048576 := by have := WA.out; omega
    have HTN : Hid (crossN A k = { A.nd q with args := (A.nd q).args.map fun y => (y + (n : Int) + ((k / n * n : Nat) : Int)).tmod ((2 * n : Nat) : Int) }) := by show _ = _; unfold crossN; rw [HGN.out, hq]
    have HKY : Hid (∀ j (hj : j < (A.nd q).args.length), ∃ y : Nat, (A.nd q).args[j] = (y : Int) ∧ y < n) := fun j hj => by
     obtain ⟨y, hy, _, hy2⟩ := OA.out.arg hkg (show j < A.deg q from hj)
     rw [List.getElem?_eq_getElem hj] at hy
     exact ⟨y, Option.some.inj hy, by rw [← HGN.out]; exact hy2⟩
    clear hq
    generalize hX : A.nd q = X at *
    obtain ⟨ax, cx, lx, dx, x0, x1, x2, x3, x4, xA, xL, hca, hcl⟩ := nx
    have X0 := Tre.hid x0
    have X1 := Tre.hid x1
    have X2 := Tre.hid x2
    have X3 := Tre.hid x3
    have X4 := Tre.hid x4
    have XA := Tre.hid xA
    have XL := Tre.hid xL
    have m1 : (0 : Int) ≤ (q : Int) := by omega
    have m2 : (q : Int) < (n : Int) := by omega
    clear x0 x1 x2 x3 x4 xA xL hkg hX hXw hxa
    go_upto_region 11 with fail
    have hn0 : ¬ n = 0 := by omega
    have hkq := HKN.out
    rw [show decide ((k : Int) < 2 * (n : Int)) = true from decide_eq_true (by omega)]
    have HLT := Tre.hid hlt
    clear hlt
    refine wp_region_keep (S := (fun w' => w'.cell? ⟨b5, 0, none⟩ = some (.slice (some ⟨gA, 0, none⟩) n cA) ∧ w'.cell? ⟨gA, q * 5, none⟩ = some (.int .i64 X.kind) ∧ w'.cell? ⟨gA, q * 5 + 1, none⟩ = some (.string X.name) ∧ w'.cell? ⟨gA, q * 5 + 2, none⟩ = some (.slice ax X.args.length cx) ∧ w'.cell? ⟨gA, q * 5 + 3, none⟩ = some (.slice lx X.labels.length dx) ∧ w'.cell? ⟨gA, q * 5 + 4, none⟩ = some (.bool X.isOpen))) [8] (by kernel_rfl) ?_ (fun hH => ?_)
    ·exact ⟨cell_below HQ.out.drew.below P50.out, cell_below HQ.out.drew.below X0.out, cell_below HQ.out.drew.below X1.out, cell_below HQ.out.drew.below X2.out, cell_below HQ.out.drew.below X3.out, cell_below HQ.out.drew.below X4.out⟩
    have HC := Tre.hid HQ.out.drew
    generalize hq : World.drew _ = wq0 at HC hH ⊢
    clear hq
    refine lPu 0 (some 49) (.pointer (some ⟨b5, 0, none⟩)) (by kernel_rfl) (fun _ _ _ h => h) (fun w => by kernel_rfl) (keep_of hH) ?_
    try simp only [Act.put, Tre.qf, Tre.qg, Tre.qh]
    refine lTake (i := 1) (some 50) (v := ?_) (by rfl) (by kernel_rfl) (by kernel_rfl) (by kernel_rfl) (by kernel_rfl) (by kernel_rfl) (fun _ _ _ h => h) (by rfl) ?_ hH ?_
    rotate_left
    ·intro w hSw; (try dsimp only at hSw); simp only [Tre.qa, Tre.qb, Tre.qc, Tre.qd, Tre.qe]; go_simp <;> with_reducible rfl
    try simp only [Act.put, Tre.qf, Tre.qg, Tre.qh]
    refine lPu 2 (some 51) (.int .i64 (k : Int)) (by kernel_rfl) (fun _ _ _ h => h) (fun w => by kernel_rfl) (keep_of hH) ?_
    refine lPu 3 (some 52) (.int .i64 (n : Int)) (by kernel_rfl) (fun _ _ _ h => h) (fun w => by kernel_rfl) (keep_of hH) ?_
    try simp only [Act.put, Tre.qf, Tre.qg, Tre.qh]
    refine lPure (i := 4) (some 53) (v := ?_) (by rfl) (by kernel_rfl) (by kernel_rfl) (by kernel_rfl) (by kernel_rfl) (fun _ _ _ h => h) (by rfl) ?_ (keep_of hH) ?_
    rotate_left
    ·intro w; simp only [Tre.qa, Tre.qb, Tre.qc, Tre.qd, Tre.qe]; go_simp <;> with_reducible rfl
    try simp only [Act.put, Tre.qf, Tre.qg, Tre.qh]
    refine lPure (i := 5) (some 54) (v := ?_) (by rfl) (by kernel_rfl) (by kernel_rfl) (by kernel_rfl) (by kernel_rfl) (fun _ _ _ h => h) (by rfl) ?_ (keep_of hH) ?_
    rotate_left
    ·intro w; simp only [Tre.qa, Tre.qb, Tre.qc, Tre.qd, Tre.qe]; go_simp <;> with_reducible rfl
    try simp only [Act.put, Tre.qf, Tre.qg, Tre.qh]
    refine lTake (i := 6) (some 55) (v := ?_) (by rfl) (by kernel_rfl) (by kernel_rfl) (by kernel_rfl) (by kernel_rfl) (by kernel_rfl) (fun _ _ _ h => h) (by rfl) ?_ hH ?_
    rotate_left
    ·intro w hSw; (try dsimp only at hSw); simp only [Tre.qa, Tre.qb, Tre.qc, Tre.qd, Tre.qe]; go_simp <;> with_reducible rfl
    try simp only [Act.put, Tre.qf, Tre.qg, Tre.qh]
    try simp only [Act.put, Tre.qf, Tre.qg, Tre.qh]
    refine with_G (G0 := wpAnyL _ _ _ _ _ _) ?_
    intro G hG a0 hA
    have Z0 : Kept (∀ (b10 : Nat) (wq : World), Hid (Mem w5 wq [cellsR b10 33 #[.int .i64 X.kind, .string X.name, .slice ax X.args.length cx, .slice lx X.labels.length dx, .bool X.isOpen], nodesR (.slice aN ds.length cN) ds, argsR ds, cellsR b8 24 #[.slice aN ds.length cN, .int .i64 0]]) → G 0 (bt 9 511) (a0.put (some 10) (.pointer (some ⟨b10, 0, none⟩))) wq) := ⟨by
     intro b10 wq HC
     refine into_G hG ?_
     rw [hA.out]
     try simp only [Act.put, Tre.qf, Tre.qg, Tre.qh]
     refine lDone (by kernel_rfl) ?_
     clear hA hG
     have HC8 := HC
     clear HC
     have f2 := HC8.out.cell 0 rfl 2 rfl
     have MA := HC8.out.allocRow #[] 3 1 0 (by unfold maxLen; omega) rfl
     have HMA := Tre.hid MA
     have h2 := MA.cell 1 rfl 2 rfl
     obtain ⟨kp, hkp⟩ : ∃ kp : Nat, k / n * n = kp := ⟨_, rfl⟩
     obtain ⟨kd, hkd⟩ : ∃ kd : Nat, k / n = kd := ⟨_, rfl⟩
     have hkp2 : kp ≤ k := by rw [← hkp]; exact Nat.div_mul_le_self k n
     have hq1 : (k : Int).tdiv (n : Int) = (kd : Int) := by rw [Int.tdiv_eq_ediv_of_nonneg (by omega), ← hkd, Int.natCast_ediv]
     have hq2 : (kd : Int) * (n : Int) = (kp : Int) := by rw [← hkd, ← hkp, Int.natCast_mul]
     have HQ1 := Tre.hid hq1
     have HQ2 := Tre.hid hq2
     have HKP := Tre.hid hkp
     have hkb : kp ≤ 400 := by have := HLT.out; omega
     have HKD : Hid (kd ≤ 400) := by show _ ≤ _; rw [← hkd]; have := HLT.out; have := Nat.div_le_self k n; omega
     clear MA hkp hkd hq1 hq2 hkp2
     go_wp2_with fail
     clear f2 h2
     obtain ⟨L, hL⟩ : ∃ L : List Int, X.args.map (fun y => (y + (n : Int) + ((k / n * n : Nat) : Int)).tmod ((2 * n : Nat) : Int)) = L := ⟨_, rfl⟩
     have HLD := Tre.hid hL
     have HLL : Hid (L.length = X.args.length) := by show _ = _; rw [← hL, List.length_map]
     have HLA : Hid (∀ j y z : Nat, (hj : j < X.args.length) → X.args[j] = (y : Int) → ((y : Int) + (n : Int) + (kp : Int)).tmod (2 * (n : Int)) = (z : Int) → L[j]? = some (z : Int)) := fun j y z hj hy hz => by
      rw [← hL, List.getElem?_map, List.getElem?_eq_getElem hj, Tre.qd, hy, HKP.out, ← hz]; rfl
     clear hL
     have HMI : Hid (Mem w5 _ [rowR 3 1 (.slice (some ⟨wq.heap.size, 0, none⟩) 0 0) 0 ((L.take 0).map (Value.int .i64)), cellsR b10 33 #[.int .i64 X.kind, .string X.name, .slice ax X.args.length cx, .slice lx X.labels.length dx, .bool X.isOpen], nodesR (.slice aN ds.length cN) ds, argsR ds, cellsR b8 24 #[.slice aN ds.length cN, .int .i64 0]]) := HMA.out
     clear HMA HC8
     go_loopw [11, 60] (fun v11 v60 wr => ∃ (j : Nat) (aU : Option Addr) (cU : Nat), j ≤ X.args.length ∧ v11 = .slice aU j cU ∧ v60 = .int .i64 (j : Int) ∧ Hid (Mem w5 wr [rowR 3 1 (.slice aU j cU) j ((L.take j).map (Value.int .i64)), cellsR b10 33 #[.int .i64 X.kind, .string X.name, .slice ax X.args.length cx, .slice lx X.labels.length dx, .bool X.isOpen], nodesR (.slice aN ds.length cN) ds, argsR ds, cellsR b8 24 #[.slice aN ds.length cN, .int .i64 0]]))
      (fun _ v60 _ => X.args.length - (intOf v60).toNat)
     case atStart => exact ⟨0, _, 0, Nat.zero_le _, rfl, rfl, HMI.out⟩
     case round =>
      obtain ⟨j, aU, cU, hj, rfl, rfl, HI⟩ := hrel
      by_cases hjl : j < X.args.length
      ·obtain ⟨y, hy, hyl⟩ := HKY.out j hjl
       obtain ⟨z, hz, hzl, _⟩ := cross_val (k := k) HLT.out hyl
       rw [HKP.out] at hz
       have hz2 : ((y : Int) + (n : Int) + (kp : Int)).tmod (2 * (n : Int)) = (z : Int) := by rw [← hz]; rfl
       have HZ := Tre.hid (HLA.out j y z hjl hy hz2)
       obtain ⟨bx, ox, rfl, hxc⟩ := (XA.out.below HI.out.below).at_ j (.int .i64 (y : Int)) (by rw [List.getElem?_map, List.getElem?_eq_getElem hjl, hy]; rfl)
       have n3 : (0 : Int) ≤ (j : Int) := by omega
       have n4 : (j : Int) < (X.args.length : Int) := by omega
       have hs1 : (y : Int) + (n : Int) ≤ 1000 := by clear hz hz2 hy hxc; omega
       have hs2 : (y : Int) + (n : Int) + (kp : Int) ≤ 1000 := by clear hz hz2 hy hxc; omega
       have hq1 := HQ1.out
       have hq2 := HQ2.out
       have hkd1 : (kd : Int) ≤ 1000 := by have h1 := HKD.out; clear hz hz2 hy hxc hq1 hq2; omega
       have hn0 : (n : Int) ≠ 0 := by clear hz hz2 hy hxc hq1 hq2; omega
       have hs4 : 2 * (n : Int) ≤ 1000 := by clear hz hz2 hy hxc hq1 hq2; omega
       have hz3 := hz2
       clear hz hz2 hy
       have MB := Tre.hid (HI.out.allocRow #[.int .i64 (z : Int)] 3 1 1 (by unfold maxLen; omega) rfl)
       go_upto_region 16 with fail
       refine wp_region_lit ?_
       refine wpList_val (v := .slice aU j cU) rfl (by kernel_rfl) ?_
       refine wpList_val (v := .int .i64 (y : Int)) rfl (by kernel_rfl) ?_
       refine wpList_val (v := .int .i64 (n : Int)) rfl (by kernel_rfl) ?_
       refine wpList_val rfl (run_add (p := (y : Int)) (q := (n : Int)) (r := (y : Int) + (n : Int)) rfl (by kernel_rfl) (by kernel_rfl) rfl (by clear hz3 hq1 hq2; omega) (by clear hz3 hq1 hq2; omega)) ?_
       refine wpList_val (v := .int .i64 (k : Int)) rfl (by kernel_rfl) ?_
       refine wpList_val (v := .int .i64 (n : Int)) rfl (by kernel_rfl) ?_
       refine wpList_val rfl (run_quo (p := (k : Int)) (q := (n : Int)) (r := (kd : Int)) rfl (by kernel_rfl) (by kernel_rfl) hn0 hq1 (by clear hz3 hq1 hq2; omega) (by clear hz3 hq1 hq2; omega)) ?_
       refine wpList_val (v := .int .i64 (n : Int)) rfl (by kernel_rfl) ?_
       refine wpList_val rfl (run_mul (p := (kd : Int)) (q := (n : Int)) (r := (kp : Int)) rfl (by kernel_rfl) (by kernel_rfl) hq2 (by clear hz3 hq1 hq2; omega) (by clear hz3 hq1 hq2; omega)) ?_
       refine wpList_val rfl (run_add (p := (y : Int) + (n : Int)) (q := (kp : Int)) (r := (y : Int) + (n : Int) + (kp : Int)) rfl (by kernel_rfl) (by kernel_rfl) rfl (by clear hz3 hq1 hq2; omega) (by clear hz3 hq1 hq2; omega)) ?_
       refine wpList_val (v := .int .i64 (n : Int)) rfl (by kernel_rfl) ?_
       refine wpList_val rfl (run_mul (p := 2) (q := (n : Int)) (r := 2 * (n : Int)) rfl (by kernel_rfl) (by kernel_rfl) rfl (by clear hz3 hq1 hq2; omega) (by clear hz3 hq1 hq2; omega)) ?_
       refine wpList_val rfl (run_rem (p := (y : Int) + (n : Int) + (kp : Int)) (q := 2 * (n : Int)) (r := (z : Int)) rfl (by kernel_rfl) (by kernel_rfl) (by clear hz3 hq1 hq2; omega) hz3 ) ?_
       clear hz3 hq1 hq2 hs1 hs2 hs4 hkd1
       simp only [Act.put, Tre.qf, Tre.qg, Tre.qh]
       go_wp2_with (at_builtin; refine wpList_append_row _ rfl _ _ 30 rfl 3 ji _ 1 8 Tryz.underlying30 L1.out L2.out L3.out L4.out rfl (by omega) (.slice aU j cU) j ((L.take j).map (Value.int .i64)) rfl (MB.out.row 1 rfl) (some ⟨wr.heap.size, 0, none⟩) 1 1 [.int .i64 (z : Int)] rfl ⟨rfl, fun j u hj => ⟨_, 0, rfl, by rw [Nat.zero_add]; exact MB.out.cellAt 0 rfl j hj⟩⟩ (by simp [Value.oneCell']) (by unfold maxLen; omega) (by omega) ?_; intro v' w9 hown4 hgrow4 hat4; have M4 := MB.out.grow 1 rfl hgrow4 hown4 hat4; obtain ⟨a4, c4, rfl, _⟩ := M4.val 1 rfl; have HM4 := Tre.hid M4; clear M4 hown4 hgrow4 hat4)
       go_roundw
       case rel =>
        refine ⟨j + 1, a4, c4, by omega, rfl, by go_num, ?_⟩
        show Mem _ _ _
        rw [List.take_add_one, HZ.out, List.map_append]
        exact HM4.out.del 0
       case measure => simp [intOf]; omega
      ·have e : j = X.args.length := by omega
       subst e
       have hta : L.take X.args.length = L := List.take_of_length_le (by rw [HLL.out]; exact Nat.le_refl _)
       have HI' : Hid (Mem w5 wr [rowR 3 1 (.slice aU X.args.length cU) X.args.length (L.map (Value.int .i64)), cellsR b10 33 #[.int .i64 X.kind, .string X.name, .slice ax X.args.length cx, .slice lx X.labels.length dx, .bool X.isOpen], nodesR (.slice aN ds.length cN) ds, argsR ds, cellsR b8 24 #[.slice aN ds.length cN, .int .i64 0]]) := by have h := HI.out; rw [hta] at h; exact h
       clear hta HI
       have f2 := HI'.out.free 1 rfl 2
       obtain ⟨y0, y1, y2, y3, y4⟩ := five HI'.out 1 rfl
       have M8 := HI'.out.setCell 1 rfl 2 (.slice aU X.args.length cU)
       obtain ⟨ww2, hww⟩ : ∃ ww : World, wr.setCell ⟨b10, 2, none⟩ (.slice aU X.args.length cU) = ww := ⟨_, rfl⟩
       rw [hww] at M8
       obtain ⟨t0, t1, t2', t3, t4⟩ := five M8 1 rfl
       have MB := Tre.hid (M8.allocRow #[.int .i64 X.kind, .string X.name, .slice aU X.args.length cU, .slice lx X.labels.length dx, .bool X.isOpen] 33 5 1 (by unfold maxLen; omega) rfl)
       obtain ⟨p0, p1⟩ := M8.two 4 rfl
       clear HI' M8
       go_wp2_with (at_builtin; refine wpList_append_row _ rfl _ _ 22 rfl 33 ni _ 5 80 Tryz.underlying22 J1.out J2.out J3.out J4.out rfl (by omega) (.slice aN ds.length cN) ds.length (ds.flatMap NodeV.cells) rfl (MB.out.row 3 rfl) (some ⟨ww2.heap.size, 0, none⟩) 1 1 [.int .i64 X.kind, .string X.name, .slice aU X.args.length cU, .slice lx X.labels.length dx, .bool X.isOpen] rfl ⟨rfl, fun j u hj => ⟨_, 0, rfl, by rw [Nat.zero_add]; exact MB.out.cellAt 0 rfl j hj⟩⟩ (by simp [Value.oneCell']) (by unfold maxLen; omega) (by omega) ?_; intro v' w9 hown4 hgrow4 hat4; have M4 := MB.out.grow 3 rfl hgrow4 hown4 hat4; obtain ⟨a4, c4, rfl, _⟩ := M4.val 3 rfl; have q6 : w9.cell? ⟨b8, 0, none⟩ = some (.slice aN ds.length cN) := M4.cell 5 rfl 0 rfl; have f6 := M4.free 5 rfl 0; have HM4 := Tre.hid (M4.setCell 5 rfl 0 (.slice a4 (ds.length + 1) c4)); clear M4 hown4 hgrow4 hat4)
       clear hww
       go_roundw
       case rel =>
        refine ⟨k + 1, a4, c4, ds ++ [⟨{ X with args := L }, .slice aU X.args.length cU, .slice lx X.labels.length dx⟩], by have := HLT.out; omega, by go_num, ?_, ?_, ?_⟩
        ·show _ = _
         rw [List.map_append, hds.out, List.range_succ, List.map_append, List.map_singleton, List.map_singleton, HTN.out, HLD.out]
        ·exact hLB.out.snoc ⟨lx, dx, rfl, XL.out, hcl⟩
        ·have hl1 : (ds ++ [(⟨{ X with args := L }, .slice aU X.args.length cU, .slice lx X.labels.length dx⟩ : NodeV)]).length = ds.length + 1 := by simp
         rw [hl1]
         show Mem _ _ _
         rw [nodesR_snoc, argsR_snoc]
         have e3 : ({ X with args := L } : Tre.Node).args.length = X.args.length := HLL.out
         rw [e3]
         exact ((HM4.out.del 0).del 1).push1
       case measure => have := HLT.out; simp [intOf]; omega
    ⟩
    have Z1 : Kept (∀ (b10 : Nat) (wq : World), Hid (Mem w5 wq [cellsR b10 33 #[.int .i64 0, .string { data := #[] }, .slice none 0 0, .slice none 0 0, .bool false], nodesR (.slice aN ds.length cN) ds, argsR ds, cellsR b8 24 #[.slice aN ds.length cN, .int .i64 0]]) → G 1 (bt 9 255) (a0.put (some 10) (.pointer (some ⟨b10, 0, none⟩))) wq) := ⟨by
     intro b10 wq HC
     refine into_G hG ?_
     rw [hA.out]
     try simp only [Act.put, Tre.qf, Tre.qg, Tre.qh]
     have hH : (fun w' => w'.cell? ⟨b5, 0, none⟩ = some (.slice (some ⟨gA, 0, none⟩) n cA) ∧ w'.cell? ⟨gA, q * 5, none⟩ = some (.int .i64 X.kind) ∧ w'.cell? ⟨gA, q * 5 + 1, none⟩ = some (.string X.name) ∧ w'.cell? ⟨gA, q * 5 + 2, none⟩ = some (.slice ax X.args.length cx) ∧ w'.cell? ⟨gA, q * 5 + 3, none⟩ = some (.slice lx X.labels.length dx) ∧ w'.cell? ⟨gA, q * 5 + 4, none⟩ = some (.bool X.isOpen)) wq := ⟨cell_below HC.out.below P50.out, cell_below HC.out.below X0.out, cell_below HC.out.below X1.out, cell_below HC.out.below X2.out, cell_below HC.out.below X3.out, cell_below HC.out.below X4.out⟩
     refine lOne 8 (by kernel_rfl) ?_
     ·
      refine (LFall.op (by kernel_rfl) (fun K hK => ?_))
      have z0 := HC.out.free 0 rfl 0
      have z1 := HC.out.free 0 rfl 1
      have z2 := HC.out.free 0 rfl 2
      have z3 := HC.out.free 0 rfl 3
      have z4 := HC.out.free 0 rfl 4
      obtain ⟨y0, y1, y2, y3, y4⟩ := five HC.out 0 rfl
      have HN := Tre.hid (((((HC.out.setCell 0 rfl 0 (.int .i64 X.kind)).setCell 0 rfl 1 (.string X.name)).setCell 0 rfl 2 (.slice ax X.args.length cx)).setCell 0 rfl 3 (.slice lx X.labels.length dx)).setCell 0 rfl 4 (.bool X.isOpen))
      go_simp
      clear z0 z1 z2 z3 z4 y0 y1 y2 y3 y4
      generalize hw : World.setCell _ ⟨b10, 4, none⟩ _ = wr at HN ⊢
      clear hw
      refine hK.out _ _ ?_
      exact outof_G hG (Z0.out b10 wr HN) (by kernel_rfl) (by rw [hA.out]; try kernel_rfl)
    ⟩
    have Z2 : Kept (∀ (wq : World), Hid (Mem w5 wq [nodesR (.slice aN ds.length cN) ds, argsR ds, cellsR b8 24 #[.slice aN ds.length cN, .int .i64 0]]) → G 2 (bt 9 127) (a0) wq) := ⟨by
     intro  wq HC
     refine into_G hG ?_
     rw [hA.out]
     have hH : (fun w' => w'.cell? ⟨b5, 0, none⟩ = some (.slice (some ⟨gA, 0, none⟩) n cA) ∧ w'.cell? ⟨gA, q * 5, none⟩ = some (.int .i64 X.kind) ∧ w'.cell? ⟨gA, q * 5 + 1, none⟩ = some (.string X.name) ∧ w'.cell? ⟨gA, q * 5 + 2, none⟩ = some (.slice ax X.args.length cx) ∧ w'.cell? ⟨gA, q * 5 + 3, none⟩ = some (.slice lx X.labels.length dx) ∧ w'.cell? ⟨gA, q * 5 + 4, none⟩ = some (.bool X.isOpen)) wq := ⟨cell_below HC.out.below P50.out, cell_below HC.out.below X0.out, cell_below HC.out.below X1.out, cell_below HC.out.below X2.out, cell_below HC.out.below X3.out, cell_below HC.out.below X4.out⟩
     refine lOne 7 (by kernel_rfl) ?_
     ·
      have HN := Tre.hid (HC.out.allocR #[.int .i64 0, .string { data := #[] }, .slice none 0 0, .slice none 0 0, .bool false] 33)
      have hH2 : (fun w' => w'.cell? ⟨b5, 0, none⟩ = some (.slice (some ⟨gA, 0, none⟩) n cA) ∧ w'.cell? ⟨gA, q * 5, none⟩ = some (.int .i64 X.kind) ∧ w'.cell? ⟨gA, q * 5 + 1, none⟩ = some (.string X.name) ∧ w'.cell? ⟨gA, q * 5 + 2, none⟩ = some (.slice ax X.args.length cx) ∧ w'.cell? ⟨gA, q * 5 + 3, none⟩ = some (.slice lx X.labels.length dx) ∧ w'.cell? ⟨gA, q * 5 + 4, none⟩ = some (.bool X.isOpen)) (wq.alloc (.cells #[.int .i64 0, .string { data := #[] }, .slice none 0 0, .slice none 0 0, .bool false] 33)) := ⟨cell_below HN.out.below P50.out, cell_below HN.out.below X0.out, cell_below HN.out.below X1.out, cell_below HN.out.below X2.out, cell_below HN.out.below X3.out, cell_below HN.out.below X4.out⟩
      refine LStep.made (some 10) (.pointer (some ⟨wq.heap.size, 0, none⟩)) _ (by kernel_rfl) (by kernel_rfl) hH2 ?_
      exact outof_G hG (Z1.out wq.heap.size _ HN) (by kernel_rfl) (by rw [hA.out]; try kernel_rfl)
    ⟩
    exact Z2.out  wq0 HC
   ·have e : k = 2 * n := by omega
    have hns : ds.map NodeV.n = (crossG A).ns := by rw [hds.out, e, ← HGN.out]; rfl
    have hlen : (crossG A).ns.length = ds.length := by rw [← hns, List.length_map]
    have hroot : (crossG A).root = 0 := RA.out
    have hcok := cross_ok CA.out (by rw [HGN.out]; omega)
    have hcs := cross_shut CA.out SA.out
    have hcw : (crossG A).weight ≤ 2097152 := by have := WA.out; rw [cross_weight]; omega
    have hx1 := cross_sub CA.out (by rw [HGN.out]; omega) B (Graph.ok_of CB.out)
    obtain ⟨r1, hr1⟩ : ∃ r, subB A B = r := ⟨_, rfl⟩
    obtain ⟨r2, hr2⟩ : ∃ r, subB B A = r := ⟨_, rfl⟩
    have hnt : (crossG A).ns.length ≤ 512 := by rw [cross_len, HGN.out]; omega
    have hnB := LB.out
    have hnA := HGN.out
    have hwA := WA.out
    have hwB := WB.out
    have NT : Hid (∀ W, Mem w5 W [nodesR (.slice aN ds.length cN) ds, argsR ds, cellsR b8 24 #[.slice aN ds.length cN, .int .i64 0]] → NodesAt W aN (crossG A).ns) := fun W hM => by
     have := nodesAt_of (hM.at_ 0 rfl) (labs_vals hLB.out hM.below (hM.at_ 1 rfl))
     rwa [hns] at this
    have MAB : Hid (∀ W, Mem w5 W [nodesR (.slice aN ds.length cN) ds, argsR ds, cellsR b8 24 #[.slice aN ds.length cN, .int .i64 0]] → Calls Tryz.prog 12 #[.agg #[.slice (some ⟨gA, 0, none⟩) n cA, .int .i64 0], .agg #[.slice aB dB.length cB, .int .i64 0]] W fun e w' => e = .returned (.bool r1) ∧ Below W.heap.size W w') := fun W hM => by
     have K := mays_any (some ⟨gA, 0, none⟩) aB cA cB A B W (HA.out.below hM.below) (HBN.out.below hM.below) (by omega) (by omega) (by omega) (by omega) (HX5.out.below hM.below) CA.out CB.out SA.out SB.out
     rw [hr1, HGN.out, ← HLB.out, RA.out, RB.out] at K; exact K
    have MBA : Hid (∀ W, Mem w5 W [nodesR (.slice aN ds.length cN) ds, argsR ds, cellsR b8 24 #[.slice aN ds.length cN, .int .i64 0]] → Calls Tryz.prog 12 #[.agg #[.slice aB dB.length cB, .int .i64 0], .agg #[.slice (some ⟨gA, 0, none⟩) n cA, .int .i64 0]] W fun e w' => e = .returned (.bool r2) ∧ Below W.heap.size W w') := fun W hM => by
     have K := mays_any aB (some ⟨gA, 0, none⟩) cB cA B A W (HBN.out.below hM.below) (HA.out.below hM.below) (by omega) (by omega) (by omega) (by omega) (HX5.out.below hM.below) CB.out CA.out SB.out SA.out
     rw [hr2, HGN.out, ← HLB.out, RA.out, RB.out] at K; exact K
    have MTB : Hid (∀ W, Mem w5 W [nodesR (.slice aN ds.length cN) ds, argsR ds, cellsR b8 24 #[.slice aN ds.length cN, .int .i64 0]] → Calls Tryz.prog 12 #[.agg #[.slice aN ds.length cN, .int .i64 0], .agg #[.slice aB dB.length cB, .int .i64 0]] W fun e w' => e = .returned (.bool r1) ∧ Below W.heap.size W w') := fun W hM => by
     have K := mays_any aN aB cN cB (crossG A) B W (NT.out W hM) (HBN.out.below hM.below) hcw (by omega) hnt (by omega) (HX5.out.below hM.below) hcok CB.out hcs SB.out
     rw [← hx1.1, hr1, hlen, ← HLB.out, hroot, RB.out] at K; exact K
    have MBT : Hid (∀ W, Mem w5 W [nodesR (.slice aN ds.length cN) ds, argsR ds, cellsR b8 24 #[.slice aN ds.length cN, .int .i64 0]] → Calls Tryz.prog 12 #[.agg #[.slice aB dB.length cB, .int .i64 0], .agg #[.slice aN ds.length cN, .int .i64 0]] W fun e w' => e = .returned (.bool r2) ∧ Below W.heap.size W w') := fun W hM => by
     have K := mays_any aB aN cB cN B (crossG A) W (HBN.out.below hM.below) (NT.out W hM) (by omega) hcw (by omega) hnt (HX5.out.below hM.below) CB.out hcok SB.out hcs
     rw [← hx1.2, hr2, hlen, ← HLB.out, hroot, RB.out] at K; exact K
    clear e hns hlen hroot hcok hcs hcw hx1 hr1 hr2 hnt hnB hnA hwA hwB NT hds hLB
    go_upto_region 21 with fail
    refine wp_region_keep (S := (fun w' => w'.cell? ⟨b5, 0, none⟩ = some (.slice (some ⟨gA, 0, none⟩) n cA) ∧ w'.cell? ⟨b5, 1, none⟩ = some (.int .i64 0) ∧ w'.cell? ⟨b6, 0, none⟩ = some (.slice aB dB.length cB) ∧ w'.cell? ⟨b6, 1, none⟩ = some (.int .i64 0) ∧ w'.cell? ⟨b8, 0, none⟩ = some (.slice aN ds.length cN) ∧ w'.cell? ⟨b8, 1, none⟩ = some (.int .i64 0))) [] (by kernel_rfl) ?_ (fun hH0 => ?_)
    ·exact ⟨cell_below HQ.out.drew.below P50.out, cell_below HQ.out.drew.below P51.out, cell_below HQ.out.drew.below P60.out, cell_below HQ.out.drew.below P61.out, HQ.out.drew.cell 2 rfl 0 rfl, HQ.out.drew.cell 2 rfl 1 rfl⟩
    have H0 := Tre.hid HQ.out.drew
    generalize hq : World.drew _ = wq0 at H0 hH0 ⊢
    clear hq
    refine lTake (i := 0) (some 89) (v := ?_) (by rfl) (by kernel_rfl) (by kernel_rfl) (by kernel_rfl) (by kernel_rfl) (by kernel_rfl) (fun _ _ _ h => h) (by rfl) ?_ hH0 ?_
    rotate_left
    ·intro w hSw; (try dsimp only at hSw); simp only [Tre.qa, Tre.qc, Tre.qd, Tre.qe]; go_simp <;> with_reducible rfl
    try simp only [Act.put, Tre.qf, Tre.qg, Tre.qh]
    refine lTake (i := 1) (some 90) (v := ?_) (by rfl) (by kernel_rfl) (by kernel_rfl) (by kernel_rfl) (by kernel_rfl) (by kernel_rfl) (fun _ _ _ h => h) (by rfl) ?_ hH0 ?_
    rotate_left
    ·intro w hSw; (try dsimp only at hSw); simp only [Tre.qa, Tre.qb, Tre.qc, Tre.qd, Tre.qe]; go_simp <;> with_reducible rfl
    try simp only [Act.put, Tre.qf, Tre.qg, Tre.qh]
    refine lTake (i := 3) (some 92) (v := ?_) (by rfl) (by kernel_rfl) (by kernel_rfl) (by kernel_rfl) (by kernel_rfl) (by kernel_rfl) (fun _ _ _ h => h) (by rfl) ?_ hH0 ?_
    rotate_left
    ·intro w hSw; (try dsimp only at hSw); simp only [Tre.qa, Tre.qb, Tre.qc, Tre.qd, Tre.qe]; go_simp <;> with_reducible rfl
    try simp only [Act.put, Tre.qf, Tre.qg, Tre.qh]
    refine lTake (i := 4) (some 93) (v := ?_) (by rfl) (by kernel_rfl) (by kernel_rfl) (by kernel_rfl) (by kernel_rfl) (by kernel_rfl) (fun _ _ _ h => h) (by rfl) ?_ hH0 ?_
    rotate_left
    ·intro w hSw; (try dsimp only at hSw); simp only [Tre.qa, Tre.qb, Tre.qc, Tre.qd, Tre.qe]; go_simp <;> with_reducible rfl
    try simp only [Act.put, Tre.qf, Tre.qg, Tre.qh]
    refine lOne 2 (by kernel_rfl) (LStep.op (fun K hK => ?_))
    go_simp
    refine (MAB.out _ H0.out).mono ?_
    rintro e wq1 ⟨rfl, bq⟩
    have H1 := Tre.hid (H0.out.quiet bq)
    clear bq
    (try dsimp only)
    refine hK.out _ _ ?_ (fun hH1 => ?_)
    ·exact ⟨cell_below H1.out.below P50.out, cell_below H1.out.below P51.out, cell_below H1.out.below P60.out, cell_below H1.out.below P61.out, H1.out.cell 2 rfl 0 rfl, H1.out.cell 2 rfl 1 rfl⟩
    clear hK K hH0
    try simp only [Act.put, Tre.qf, Tre.qg, Tre.qh]
    refine lOne 5 (by kernel_rfl) (LStep.op (fun K hK => ?_))
    go_simp
    refine (MTB.out _ H1.out).mono ?_
    rintro e wq2 ⟨rfl, bq⟩
    have H2 := Tre.hid (H1.out.quiet bq)
    clear bq
    (try dsimp only)
    refine hK.out _ _ ?_ (fun hH2 => ?_)
    ·exact ⟨cell_below H2.out.below P50.out, cell_below H2.out.below P51.out, cell_below H2.out.below P60.out, cell_below H2.out.below P61.out, H2.out.cell 2 rfl 0 rfl, H2.out.cell 2 rfl 1 rfl⟩
    clear hK K hH1
    try simp only [Act.put, Tre.qf, Tre.qg, Tre.qh]
    refine lPure (i := 6) (some 95) (v := ?_) (by rfl) (by kernel_rfl) (by kernel_rfl) (by kernel_rfl) (by kernel_rfl) (fun _ _ _ h => h) (by rfl) ?_ (keep_of hH2) ?_
    rotate_left
    ·intro w; simp only [Tre.qa, Tre.qb, Tre.qc, Tre.qd, Tre.qe]; go_simp <;> with_reducible rfl
    try simp only [Act.put, Tre.qf, Tre.qg, Tre.qh]
    refine lPure (i := 7) (some 96) (v := ?_) (by rfl) (by kernel_rfl) (by kernel_rfl) (by kernel_rfl) (by kernel_rfl) (fun _ _ _ h => h) (by rfl) ?_ (keep_of hH2) ?_
    rotate_left
    ·intro w; simp only [Tre.qa, Tre.qb, Tre.qc, Tre.qd, Tre.qe]; go_simp <;> with_reducible rfl
    try simp only [Act.put, Tre.qf, Tre.qg, Tre.qh]
    refine lTake (i := 8) (some 97) (v := ?_) (by rfl) (by kernel_rfl) (by kernel_rfl) (by kernel_rfl) (by kernel_rfl) (by kernel_rfl) (fun _ _ _ h => h) (by rfl) ?_ hH2 ?_
    rotate_left
    ·intro w hSw; (try dsimp only at hSw); simp only [Tre.qa, Tre.qb, Tre.qc, Tre.qd, Tre.qe]; go_simp <;> with_reducible rfl
    try simp only [Act.put, Tre.qf, Tre.qg, Tre.qh]
    refine lTake (i := 9) (some 98) (v := ?_) (by rfl) (by kernel_rfl) (by kernel_rfl) (by kernel_rfl) (by kernel_rfl) (by kernel_rfl) (fun _ _ _ h => h) (by rfl) ?_ hH2 ?_
    rotate_left
    ·intro w hSw; (try dsimp only at hSw); simp only [Tre.qa, Tre.qb, Tre.qc, Tre.qd, Tre.qe]; go_simp <;> with_reducible rfl
    try simp only [Act.put, Tre.qf, Tre.qg, Tre.qh]
    refine lTake (i := 11) (some 100) (v := ?_) (by rfl) (by kernel_rfl) (by kernel_rfl) (by kernel_rfl) (by kernel_rfl) (by kernel_rfl) (fun _ _ _ h => h) (by rfl) ?_ hH2 ?_
    rotate_left
    ·intro w hSw; (try dsimp only at hSw); simp only [Tre.qa, Tre.qb, Tre.qc, Tre.qd, Tre.qe]; go_simp <;> with_reducible rfl
    try simp only [Act.put, Tre.qf, Tre.qg, Tre.qh]
    refine lTake (i := 12) (some 101) (v := ?_) (by rfl) (by kernel_rfl) (by kernel_rfl) (by kernel_rfl) (by kernel_rfl) (by kernel_rfl) (fun _ _ _ h => h) (by rfl) ?_ hH2 ?_
    rotate_left
    ·intro w hSw; (try dsimp only at hSw); simp only [Tre.qa, Tre.qb, Tre.qc, Tre.qd, Tre.qe]; go_simp <;> with_reducible rfl
    try simp only [Act.put, Tre.qf, Tre.qg, Tre.qh]
    refine lOne 10 (by kernel_rfl) (LStep.op (fun K hK => ?_))
    go_simp
    refine (MBA.out _ H2.out).mono ?_
    rintro e wq3 ⟨rfl, bq⟩
    have H3 := Tre.hid (H2.out.quiet bq)
    clear bq
    (try dsimp only)
    refine hK.out _ _ ?_ (fun hH3 => ?_)
    ·exact ⟨cell_below H3.out.below P50.out, cell_below H3.out.below P51.out, cell_below H3.out.below P60.out, cell_below H3.out.below P61.out, H3.out.cell 2 rfl 0 rfl, H3.out.cell 2 rfl 1 rfl⟩
    clear hK K hH2
    try simp only [Act.put, Tre.qf, Tre.qg, Tre.qh]
    refine lOne 13 (by kernel_rfl) (LStep.op (fun K hK => ?_))
    go_simp
    refine (MBT.out _ H3.out).mono ?_
    rintro e wq4 ⟨rfl, bq⟩
    have H4 := Tre.hid (H3.out.quiet bq)
    clear bq
    (try dsimp only)
    refine hK.out _ _ ?_ (fun hH4 => ?_)
    ·exact ⟨cell_below H4.out.below P50.out, cell_below H4.out.below P51.out, cell_below H4.out.below P60.out, cell_below H4.out.below P61.out, H4.out.cell 2 rfl 0 rfl, H4.out.cell 2 rfl 1 rfl⟩
    clear hK K hH3
    try simp only [Act.put, Tre.qf, Tre.qg, Tre.qh]
    refine lPure (i := 14) (some 103) (v := ?_) (by rfl) (by kernel_rfl) (by kernel_rfl) (by kernel_rfl) (by kernel_rfl) (fun _ _ _ h => h) (by rfl) ?_ (keep_of hH4) ?_
    rotate_left
    ·intro w; simp only [Tre.qa, Tre.qb, Tre.qc, Tre.qd, Tre.qe]; go_simp <;> with_reducible rfl
    try simp only [Act.put, Tre.qf, Tre.qg, Tre.qh]
    refine lPure (i := 15) (some 104) (v := ?_) (by rfl) (by kernel_rfl) (by kernel_rfl) (by kernel_rfl) (by kernel_rfl) (fun _ _ _ h => h) (by rfl) ?_ (keep_of hH4) ?_
    rotate_left
    ·intro w; simp only [Tre.qa, Tre.qb, Tre.qc, Tre.qd, Tre.qe]; go_simp <;> with_reducible rfl
    try simp only [Act.put, Tre.qf, Tre.qg, Tre.qh]
    refine lPure (i := 16) (some 4) (v := ?_) (by rfl) (by kernel_rfl) (by kernel_rfl) (by kernel_rfl) (by kernel_rfl) (fun _ _ _ h => h) (by rfl) ?_ (keep_of hH4) ?_
    rotate_left
    ·intro w; simp only [Tre.qa, Tre.qb, Tre.qc, Tre.qd, Tre.qe]; go_simp <;> with_reducible rfl
    try simp only [Act.put, Tre.qf, Tre.qg, Tre.qh]
    refine lDone (by kernel_rfl) ?_
    clear hH4
    have HE := H4
    clear H0
    go_wp2_with fail
    go_ret
    exact ⟨ret_bool (by simp), below_below HBW.out HE.out.below⟩
 ⟩
 have Z1 : Kept (∀ (aA : Option Addr) (cA : Nat) (dA : List NodeV) (aB : Option Addr) (cB : Nat) (dB : List NodeV) (b5 : Nat) (b6 : Nat) (wq : World), Hid (Mem w wq [cellsR b5 24 #[.slice aA dA.length cA, .int .i64 0], cellsR b6 24 #[.slice none 0 0, .int .i64 0], nodesR (.slice aA dA.length cA) dA, kidsR dA, factR (dA.map NodeV.n = g.closeG.ns), nodesR (.slice aB dB.length cB) dB, kidsR dB, factR (dB.map NodeV.n = h.closeG.ns), cellsR (w.heap.size + 1) 24 #[.slice ah h.ns.length cb, .int .i64 h.root], cellsR w.heap.size 24 #[.slice ag g.ns.length ca, .int .i64 g.root]]) → G 1 (bt 8 127) ((((a0.put (some 35) (.agg #[.slice aA dA.length cA, .int .i64 0])).put (some 37) (.agg #[.slice aB dB.length cB, .int .i64 0])).put (some 5) (.pointer (some ⟨b5, 0, none⟩))).put (some 6) (.pointer (some ⟨b6, 0, none⟩))) wq) := ⟨by
  intro aA cA dA aB cB dB b5 b6 wq HC
  refine into_G hG ?_
  rw [hA.out]
  try simp only [Act.put, Tre.qf, Tre.qg, Tre.qh]
  have hH : (fun w' => w'.cell? ⟨w.heap.size, 0, none⟩ = some (.slice ag g.ns.length ca) ∧ w'.cell? ⟨w.heap.size, 1, none⟩ = some (.int .i64 g.root) ∧ w'.cell? ⟨w.heap.size + 1, 0, none⟩ = some (.slice ah h.ns.length cb) ∧ w'.cell? ⟨w.heap.size + 1, 1, none⟩ = some (.int .i64 h.root)) wq := ⟨HC.out.cell 9 rfl 0 rfl, HC.out.cell 9 rfl 1 rfl, HC.out.cell 8 rfl 0 rfl, HC.out.cell 8 rfl 1 rfl⟩
  refine lOne 7 (by kernel_rfl) ?_
  ·
   refine (LFall.op (by kernel_rfl) (fun K hK => ?_))
   have z0 := HC.out.free 1 rfl 0
   have z1 := HC.out.free 1 rfl 1
   obtain ⟨y0, y1⟩ := HC.out.two 1 rfl
   have HN := Tre.hid ((HC.out.setCell 1 rfl 0 (.slice aB dB.length cB)).setCell 1 rfl 1 (.int .i64 0))
   go_simp
   clear z0 z1 y0 y1
   generalize hw : World.setCell _ ⟨b6, 1, none⟩ _ = wr at HN ⊢
   clear hw
   refine hK.out _ _ ?_
   exact outof_G hG (Z0.out aA cA dA aB cB dB b5 b6 wr HN) (by kernel_rfl) (by rw [hA.out]; try kernel_rfl)
 ⟩
 have Z2 : Kept (∀ (aA : Option Addr) (cA : Nat) (dA : List NodeV) (aB : Option Addr) (cB : Nat) (dB : List NodeV) (b5 : Nat) (b6 : Nat) (wq : World), Hid (Mem w wq [cellsR b5 24 #[.slice none 0 0, .int .i64 0], cellsR b6 24 #[.slice none 0 0, .int .i64 0], nodesR (.slice aA dA.length cA) dA, kidsR dA, factR (dA.map NodeV.n = g.closeG.ns), nodesR (.slice aB dB.length cB) dB, kidsR dB, factR (dB.map NodeV.n = h.closeG.ns), cellsR (w.heap.size + 1) 24 #[.slice ah h.ns.length cb, .int .i64 h.root], cellsR w.heap.size 24 #[.slice ag g.ns.length ca, .int .i64 g.root]]) → G 2 (bt 8 63) ((((a0.put (some 35) (.agg #[.slice aA dA.length cA, .int .i64 0])).put (some 37) (.agg #[.slice aB dB.length cB, .int .i64 0])).put (some 5) (.pointer (some ⟨b5, 0, none⟩))).put (some 6) (.pointer (some ⟨b6, 0, none⟩))) wq) := ⟨by
  intro aA cA dA aB cB dB b5 b6 wq HC
  refine into_G hG ?_
  rw [hA.out]
  try simp only [Act.put, Tre.qf, Tre.qg, Tre.qh]
  have hH : (fun w' => w'.cell? ⟨w.heap.size, 0, none⟩ = some (.slice ag g.ns.length ca) ∧ w'.cell? ⟨w.heap.size, 1, none⟩ = some (.int .i64 g.root) ∧ w'.cell? ⟨w.heap.size + 1, 0, none⟩ = some (.slice ah h.ns.length cb) ∧ w'.cell? ⟨w.heap.size + 1, 1, none⟩ = some (.int .i64 h.root)) wq := ⟨HC.out.cell 9 rfl 0 rfl, HC.out.cell 9 rfl 1 rfl, HC.out.cell 8 rfl 0 rfl, HC.out.cell 8 rfl 1 rfl⟩
  refine lOne 6 (by kernel_rfl) ?_
  ·
   refine (LStep.op (fun K hK => ?_))
   have z0 := HC.out.free 0 rfl 0
   have z1 := HC.out.free 0 rfl 1
   obtain ⟨y0, y1⟩ := HC.out.two 0 rfl
   have HN := Tre.hid ((HC.out.setCell 0 rfl 0 (.slice aA dA.length cA)).setCell 0 rfl 1 (.int .i64 0))
   go_simp
   clear z0 z1 y0 y1
   generalize hw : World.setCell _ ⟨b5, 1, none⟩ _ = wr at HN ⊢
   clear hw
   refine hK.out _ _ ?_ (fun hH2 => ?_)
   ·exact ⟨HN.out.cell 9 rfl 0 rfl, HN.out.cell 9 rfl 1 rfl, HN.out.cell 8 rfl 0 rfl, HN.out.cell 8 rfl 1 rfl⟩
   exact outof_G hG (Z1.out aA cA dA aB cB dB b5 b6 wr HN) (by kernel_rfl) (by rw [hA.out]; try kernel_rfl)
 ⟩
 have Z3 : Kept (∀ (aA : Option Addr) (cA : Nat) (dA : List NodeV) (aB : Option Addr) (cB : Nat) (dB : List NodeV) (b5 : Nat) (wq : World), Hid (Mem w wq [cellsR b5 24 #[.slice none 0 0, .int .i64 0], nodesR (.slice aA dA.length cA) dA, kidsR dA, factR (dA.map NodeV.n = g.closeG.ns), nodesR (.slice aB dB.length cB) dB, kidsR dB, factR (dB.map NodeV.n = h.closeG.ns), cellsR (w.heap.size + 1) 24 #[.slice ah h.ns.length cb, .int .i64 h.root], cellsR w.heap.size 24 #[.slice ag g.ns.length ca, .int .i64 g.root]]) → G 3 (bt 8 31) (((a0.put (some 35) (.agg #[.slice aA dA.length cA, .int .i64 0])).put (some 37) (.agg #[.slice aB dB.length cB, .int .i64 0])).put (some 5) (.pointer (some ⟨b5, 0, none⟩))) wq) := ⟨by
  intro aA cA dA aB cB dB b5 wq HC
  refine into_G hG ?_
  rw [hA.out]
  have hH : (fun w' => w'.cell? ⟨w.heap.size, 0, none⟩ = some (.slice ag g.ns.length ca) ∧ w'.cell? ⟨w.heap.size, 1, none⟩ = some (.int .i64 g.root) ∧ w'.cell? ⟨w.heap.size + 1, 0, none⟩ = some (.slice ah h.ns.length cb) ∧ w'.cell? ⟨w.heap.size + 1, 1, none⟩ = some (.int .i64 h.root)) wq := ⟨HC.out.cell 8 rfl 0 rfl, HC.out.cell 8 rfl 1 rfl, HC.out.cell 7 rfl 0 rfl, HC.out.cell 7 rfl 1 rfl⟩
  refine lOne 5 (by kernel_rfl) ?_
  ·
   have HN := Tre.hid (HC.out.allocR #[.slice none 0 0, .int .i64 0] 24)
   have HC := Tre.hid ((HN.out.front 0 rfl).front 1 rfl)
   clear HN
   have hH2 : (fun w' => w'.cell? ⟨w.heap.size, 0, none⟩ = some (.slice ag g.ns.length ca) ∧ w'.cell? ⟨w.heap.size, 1, none⟩ = some (.int .i64 g.root) ∧ w'.cell? ⟨w.heap.size + 1, 0, none⟩ = some (.slice ah h.ns.length cb) ∧ w'.cell? ⟨w.heap.size + 1, 1, none⟩ = some (.int .i64 h.root)) (wq.alloc (.cells #[.slice none 0 0, .int .i64 0] 24)) := ⟨HC.out.cell 9 rfl 0 rfl, HC.out.cell 9 rfl 1 rfl, HC.out.cell 8 rfl 0 rfl, HC.out.cell 8 rfl 1 rfl⟩
   refine LStep.made (some 6) (.pointer (some ⟨wq.heap.size, 0, none⟩)) _ (by kernel_rfl) (by kernel_rfl) hH2 ?_
   exact outof_G hG (Z2.out aA cA dA aB cB dB b5 wq.heap.size _ HC) (by kernel_rfl) (by rw [hA.out]; try kernel_rfl)
 ⟩
 have Z4 : Kept (∀ (aA : Option Addr) (cA : Nat) (dA : List NodeV) (aB : Option Addr) (cB : Nat) (dB : List NodeV) (b6 : Nat) (wq : World), Hid (Mem w wq [cellsR b6 24 #[.slice none 0 0, .int .i64 0], nodesR (.slice aA dA.length cA) dA, kidsR dA, factR (dA.map NodeV.n = g.closeG.ns), nodesR (.slice aB dB.length cB) dB, kidsR dB, factR (dB.map NodeV.n = h.closeG.ns), cellsR (w.heap.size + 1) 24 #[.slice ah h.ns.length cb, .int .i64 h.root], cellsR w.heap.size 24 #[.slice ag g.ns.length ca, .int .i64 g.root]]) → G 3 (bt 8 47) (((a0.put (some 35) (.agg #[.slice aA dA.length cA, .int .i64 0])).put (some 37) (.agg #[.slice aB dB.length cB, .int .i64 0])).put (some 6) (.pointer (some ⟨b6, 0, none⟩))) wq) := ⟨by
  intro aA cA dA aB cB dB b6 wq HC
  refine into_G hG ?_
  rw [hA.out]
  have hH : (fun w' => w'.cell? ⟨w.heap.size, 0, none⟩ = some (.slice ag g.ns.length ca) ∧ w'.cell? ⟨w.heap.size, 1, none⟩ = some (.int .i64 g.root) ∧ w'.cell? ⟨w.heap.size + 1, 0, none⟩ = some (.slice ah h.ns.length cb) ∧ w'.cell? ⟨w.heap.size + 1, 1, none⟩ = some (.int .i64 h.root)) wq := ⟨HC.out.cell 8 rfl 0 rfl, HC.out.cell 8 rfl 1 rfl, HC.out.cell 7 rfl 0 rfl, HC.out.cell 7 rfl 1 rfl⟩
  refine lOne 4 (by kernel_rfl) ?_
  ·
   have HN := Tre.hid (HC.out.allocR #[.slice none 0 0, .int .i64 0] 24)
   have hH2 : (fun w' => w'.cell? ⟨w.heap.size, 0, none⟩ = some (.slice ag g.ns.length ca) ∧ w'.cell? ⟨w.heap.size, 1, none⟩ = some (.int .i64 g.root) ∧ w'.cell? ⟨w.heap.size + 1, 0, none⟩ = some (.slice ah h.ns.length cb) ∧ w'.cell? ⟨w.heap.size + 1, 1, none⟩ = some (.int .i64 h.root)) (wq.alloc (.cells #[.slice none 0 0, .int .i64 0] 24)) := ⟨HN.out.cell 9 rfl 0 rfl, HN.out.cell 9 rfl 1 rfl, HN.out.cell 8 rfl 0 rfl, HN.out.cell 8 rfl 1 rfl⟩
   refine LStep.made (some 5) (.pointer (some ⟨wq.heap.size, 0, none⟩)) _ (by kernel_rfl) (by kernel_rfl) hH2 ?_
   exact outof_G hG (Z2.out aA cA dA aB cB dB wq.heap.size b6 _ HN) (by kernel_rfl) (by rw [hA.out]; try kernel_rfl)
 ⟩
 have Z5 : Kept (∀ (aA : Option Addr) (cA : Nat) (dA : List NodeV) (b5 : Nat) (b6 : Nat) (wq : World), Hid (Mem w wq [cellsR b5 24 #[.slice none 0 0, .int .i64 0], cellsR b6 24 #[.slice none 0 0, .int .i64 0], nodesR (.slice aA dA.length cA) dA, kidsR dA, factR (dA.map NodeV.n = g.closeG.ns), cellsR (w.heap.size + 1) 24 #[.slice ah h.ns.length cb, .int .i64 h.root], cellsR w.heap.size 24 #[.slice ag g.ns.length ca, .int .i64 g.root]]) → G 3 (bt 8 55) (((a0.put (some 35) (.agg #[.slice aA dA.length cA, .int .i64 0])).put (some 5) (.pointer (some ⟨b5, 0, none⟩))).put (some 6) (.pointer (some ⟨b6, 0, none⟩))) wq) := ⟨by
  intro aA cA dA b5 b6 wq HC
  refine into_G hG ?_
  rw [hA.out]
  try simp only [Act.put, Tre.qf, Tre.qg, Tre.qh]
  have hH : (fun w' => w'.cell? ⟨w.heap.size, 0, none⟩ = some (.slice ag g.ns.length ca) ∧ w'.cell? ⟨w.heap.size, 1, none⟩ = some (.int .i64 g.root) ∧ w'.cell? ⟨w.heap.size + 1, 0, none⟩ = some (.slice ah h.ns.length cb) ∧ w'.cell? ⟨w.heap.size + 1, 1, none⟩ = some (.int .i64 h.root)) wq := ⟨HC.out.cell 6 rfl 0 rfl, HC.out.cell 6 rfl 1 rfl, HC.out.cell 5 rfl 0 rfl, HC.out.cell 5 rfl 1 rfl⟩
  refine lOne 3 (by kernel_rfl) ?_
  ·
   refine (LStep.op (fun K hK => ?_))
   go_simp
   refine (HCH.out _ HC.out.below).mono ?_
   rintro e wr ⟨vB, dB, rfl, hdB, mq⟩
   have HN1 := HC.out.call mq
   obtain ⟨aB, cB, rfl, _⟩ := HN1.val 0 rfl
   have HN := Tre.hid (HN1.addFact hdB)
   clear mq HN1 hdB
   (try dsimp only)
   have HC := Tre.hid ((((((((HN.out.front 0 rfl).front 2 rfl).front 2 rfl).front 7 rfl).front 7 rfl).front 7 rfl).front 7 rfl).front 7 rfl)
   clear HN
   refine hK.out _ _ ?_ (fun hH2 => ?_)
   ·exact ⟨HC.out.cell 9 rfl 0 rfl, HC.out.cell 9 rfl 1 rfl, HC.out.cell 8 rfl 0 rfl, HC.out.cell 8 rfl 1 rfl⟩
   exact outof_G hG (Z2.out aA cA dA aB cB dB b5 b6 wr HC) (by kernel_rfl) (by rw [hA.out]; try kernel_rfl)
 ⟩
 have Z6 : Kept (∀ (aA : Option Addr) (cA : Nat) (dA : List NodeV) (aB : Option Addr) (cB : Nat) (dB : List NodeV) (wq : World), Hid (Mem w wq [nodesR (.slice aA dA.length cA) dA, kidsR dA, factR (dA.map NodeV.n = g.closeG.ns), nodesR (.slice aB dB.length cB) dB, kidsR dB, factR (dB.map NodeV.n = h.closeG.ns), cellsR (w.heap.size + 1) 24 #[.slice ah h.ns.length cb, .int .i64 h.root], cellsR w.heap.size 24 #[.slice ag g.ns.length ca, .int .i64 g.root]]) → G 4 (bt 8 15) ((a0.put (some 35) (.agg #[.slice aA dA.length cA, .int .i64 0])).put (some 37) (.agg #[.slice aB dB.length cB, .int .i64 0])) wq) := ⟨by
  intro aA cA dA aB cB dB wq HC
  refine into_G hG ?_
  rw [hA.out]
  have hH : (fun w' => w'.cell? ⟨w.heap.size, 0, none⟩ = some (.slice ag g.ns.length ca) ∧ w'.cell? ⟨w.heap.size, 1, none⟩ = some (.int .i64 g.root) ∧ w'.cell? ⟨w.heap.size + 1, 0, none⟩ = some (.slice ah h.ns.length cb) ∧ w'.cell? ⟨w.heap.size + 1, 1, none⟩ = some (.int .i64 h.root)) wq := ⟨HC.out.cell 7 rfl 0 rfl, HC.out.cell 7 rfl 1 rfl, HC.out.cell 6 rfl 0 rfl, HC.out.cell 6 rfl 1 rfl⟩
  refine lTwo 4 5 (by kernel_rfl) ?_ ?_
  ·
   have HN := Tre.hid (HC.out.allocR #[.slice none 0 0, .int .i64 0] 24)
   have hH2 : (fun w' => w'.cell? ⟨w.heap.size, 0, none⟩ = some (.slice ag g.ns.length ca) ∧ w'.cell? ⟨w.heap.size, 1, none⟩ = some (.int .i64 g.root) ∧ w'.cell? ⟨w.heap.size + 1, 0, none⟩ = some (.slice ah h.ns.length cb) ∧ w'.cell? ⟨w.heap.size + 1, 1, none⟩ = some (.int .i64 h.root)) (wq.alloc (.cells #[.slice none 0 0, .int .i64 0] 24)) := ⟨HN.out.cell 8 rfl 0 rfl, HN.out.cell 8 rfl 1 rfl, HN.out.cell 7 rfl 0 rfl, HN.out.cell 7 rfl 1 rfl⟩
   refine LStep.made (some 5) (.pointer (some ⟨wq.heap.size, 0, none⟩)) _ (by kernel_rfl) (by kernel_rfl) hH2 ?_
   exact outof_G hG (Z3.out aA cA dA aB cB dB wq.heap.size _ HN) (by kernel_rfl) (by rw [hA.out]; try kernel_rfl)
  ·
   have HN := Tre.hid (HC.out.allocR #[.slice none 0 0, .int .i64 0] 24)
   have hH2 : (fun w' => w'.cell? ⟨w.heap.size, 0, none⟩ = some (.slice ag g.ns.length ca) ∧ w'.cell? ⟨w.heap.size, 1, none⟩ = some (.int .i64 g.root) ∧ w'.cell? ⟨w.heap.size + 1, 0, none⟩ = some (.slice ah h.ns.length cb) ∧ w'.cell? ⟨w.heap.size + 1, 1, none⟩ = some (.int .i64 h.root)) (wq.alloc (.cells #[.slice none 0 0, .int .i64 0] 24)) := ⟨HN.out.cell 8 rfl 0 rfl, HN.out.cell 8 rfl 1 rfl, HN.out.cell 7 rfl 0 rfl, HN.out.cell 7 rfl 1 rfl⟩
   refine LStep.made (some 6) (.pointer (some ⟨wq.heap.size, 0, none⟩)) _ (by kernel_rfl) (by kernel_rfl) hH2 ?_
   exact outof_G hG (Z4.out aA cA dA aB cB dB wq.heap.size _ HN) (by kernel_rfl) (by rw [hA.out]; try kernel_rfl)
 ⟩
 have Z7 : Kept (∀ (aA : Option Addr) (cA : Nat) (dA : List NodeV) (b5 : Nat) (wq : World), Hid (Mem w wq [cellsR b5 24 #[.slice none 0 0, .int .i64 0], nodesR (.slice aA dA.length cA) dA, kidsR dA, factR (dA.map NodeV.n = g.closeG.ns), cellsR (w.heap.size + 1) 24 #[.slice ah h.ns.length cb, .int .i64 h.root], cellsR w.heap.size 24 #[.slice ag g.ns.length ca, .int .i64 g.root]]) → G 4 (bt 8 23) ((a0.put (some 35) (.agg #[.slice aA dA.length cA, .int .i64 0])).put (some 5) (.pointer (some ⟨b5, 0, none⟩))) wq) := ⟨by
  intro aA cA dA b5 wq HC
  refine into_G hG ?_
  rw [hA.out]
  try simp only [Act.put, Tre.qf, Tre.qg, Tre.qh]
  have hH : (fun w' => w'.cell? ⟨w.heap.size, 0, none⟩ = some (.slice ag g.ns.length ca) ∧ w'.cell? ⟨w.heap.size, 1, none⟩ = some (.int .i64 g.root) ∧ w'.cell? ⟨w.heap.size + 1, 0, none⟩ = some (.slice ah h.ns.length cb) ∧ w'.cell? ⟨w.heap.size + 1, 1, none⟩ = some (.int .i64 h.root)) wq := ⟨HC.out.cell 5 rfl 0 rfl, HC.out.cell 5 rfl 1 rfl, HC.out.cell 4 rfl 0 rfl, HC.out.cell 4 rfl 1 rfl⟩
  refine lTwo 3 5 (by kernel_rfl) ?_ ?_
  ·
   refine (LStep.op (fun K hK => ?_))
   go_simp
   refine (HCH.out _ HC.out.below).mono ?_
   rintro e wr ⟨vB, dB, rfl, hdB, mq⟩
   have HN1 := HC.out.call mq
   obtain ⟨aB, cB, rfl, _⟩ := HN1.val 0 rfl
   have HN := Tre.hid (HN1.addFact hdB)
   clear mq HN1 hdB
   (try dsimp only)
   have HC := Tre.hid (((((((HN.out.front 0 rfl).front 2 rfl).front 2 rfl).front 6 rfl).front 6 rfl).front 6 rfl).front 6 rfl)
   clear HN
   refine hK.out _ _ ?_ (fun hH2 => ?_)
   ·exact ⟨HC.out.cell 8 rfl 0 rfl, HC.out.cell 8 rfl 1 rfl, HC.out.cell 7 rfl 0 rfl, HC.out.cell 7 rfl 1 rfl⟩
   exact outof_G hG (Z3.out aA cA dA aB cB dB b5 wr HC) (by kernel_rfl) (by rw [hA.out]; try kernel_rfl)
  ·
   have HN := Tre.hid (HC.out.allocR #[.slice none 0 0, .int .i64 0] 24)
   have HC := Tre.hid ((HN.out.front 0 rfl).front 1 rfl)
   clear HN
   have hH2 : (fun w' => w'.cell? ⟨w.heap.size, 0, none⟩ = some (.slice ag g.ns.length ca) ∧ w'.cell? ⟨w.heap.size, 1, none⟩ = some (.int .i64 g.root) ∧ w'.cell? ⟨w.heap.size + 1, 0, none⟩ = some (.slice ah h.ns.length cb) ∧ w'.cell? ⟨w.heap.size + 1, 1, none⟩ = some (.int .i64 h.root)) (wq.alloc (.cells #[.slice none 0 0, .int .i64 0] 24)) := ⟨HC.out.cell 6 rfl 0 rfl, HC.out.cell 6 rfl 1 rfl, HC.out.cell 5 rfl 0 rfl, HC.out.cell 5 rfl 1 rfl⟩
   refine LStep.made (some 6) (.pointer (some ⟨wq.heap.size, 0, none⟩)) _ (by kernel_rfl) (by kernel_rfl) hH2 ?_
   exact outof_G hG (Z5.out aA cA dA b5 wq.heap.size _ HC) (by kernel_rfl) (by rw [hA.out]; try kernel_rfl)
 ⟩
 have Z8 : Kept (∀ (aA : Option Addr) (cA : Nat) (dA : List NodeV) (b6 : Nat) (wq : World), Hid (Mem w wq [cellsR b6 24 #[.slice none 0 0, .int .i64 0], nodesR (.slice aA dA.length cA) dA, kidsR dA, factR (dA.map NodeV.n = g.closeG.ns), cellsR (w.heap.size + 1) 24 #[.slice ah h.ns.length cb, .int .i64 h.root], cellsR w.heap.size 24 #[.slice ag g.ns.length ca, .int .i64 g.root]]) → G 4 (bt 8 39) ((a0.put (some 35) (.agg #[.slice aA dA.length cA, .int .i64 0])).put (some 6) (.pointer (some ⟨b6, 0, none⟩))) wq) := ⟨by
  intro aA cA dA b6 wq HC
  refine into_G hG ?_
  rw [hA.out]
  try simp only [Act.put, Tre.qf, Tre.qg, Tre.qh]
  have hH : (fun w' => w'.cell? ⟨w.heap.size, 0, none⟩ = some (.slice ag g.ns.length ca) ∧ w'.cell? ⟨w.heap.size, 1, none⟩ = some (.int .i64 g.root) ∧ w'.cell? ⟨w.heap.size + 1, 0, none⟩ = some (.slice ah h.ns.length cb) ∧ w'.cell? ⟨w.heap.size + 1, 1, none⟩ = some (.int .i64 h.root)) wq := ⟨HC.out.cell 5 rfl 0 rfl, HC.out.cell 5 rfl 1 rfl, HC.out.cell 4 rfl 0 rfl, HC.out.cell 4 rfl 1 rfl⟩
  refine lTwo 3 4 (by kernel_rfl) ?_ ?_
  ·
   refine (LStep.op (fun K hK => ?_))
   go_simp
   refine (HCH.out _ HC.out.below).mono ?_
   rintro e wr ⟨vB, dB, rfl, hdB, mq⟩
   have HN1 := HC.out.call mq
   obtain ⟨aB, cB, rfl, _⟩ := HN1.val 0 rfl
   have HN := Tre.hid (HN1.addFact hdB)
   clear mq HN1 hdB
   (try dsimp only)
   have HC := Tre.hid (((((((HN.out.front 0 rfl).front 2 rfl).front 2 rfl).front 6 rfl).front 6 rfl).front 6 rfl).front 6 rfl)
   clear HN
   refine hK.out _ _ ?_ (fun hH2 => ?_)
   ·exact ⟨HC.out.cell 8 rfl 0 rfl, HC.out.cell 8 rfl 1 rfl, HC.out.cell 7 rfl 0 rfl, HC.out.cell 7 rfl 1 rfl⟩
   exact outof_G hG (Z4.out aA cA dA aB cB dB b6 wr HC) (by kernel_rfl) (by rw [hA.out]; try kernel_rfl)
  ·
   have HN := Tre.hid (HC.out.allocR #[.slice none 0 0, .int .i64 0] 24)
   have hH2 : (fun w' => w'.cell? ⟨w.heap.size, 0, none⟩ = some (.slice ag g.ns.length ca) ∧ w'.cell? ⟨w.heap.size, 1, none⟩ = some (.int .i64 g.root) ∧ w'.cell? ⟨w.heap.size + 1, 0, none⟩ = some (.slice ah h.ns.length cb) ∧ w'.cell? ⟨w.heap.size + 1, 1, none⟩ = some (.int .i64 h.root)) (wq.alloc (.cells #[.slice none 0 0, .int .i64 0] 24)) := ⟨HN.out.cell 6 rfl 0 rfl, HN.out.cell 6 rfl 1 rfl, HN.out.cell 5 rfl 0 rfl, HN.out.cell 5 rfl 1 rfl⟩
   refine LStep.made (some 5) (.pointer (some ⟨wq.heap.size, 0, none⟩)) _ (by kernel_rfl) (by kernel_rfl) hH2 ?_
   exact outof_G hG (Z5.out aA cA dA wq.heap.size b6 _ HN) (by kernel_rfl) (by rw [hA.out]; try kernel_rfl)
 ⟩
 have Z9 : Kept (∀ (b5 : Nat) (b6 : Nat) (wq : World), Hid (Mem w wq [cellsR b5 24 #[.slice none 0 0, .int .i64 0], cellsR b6 24 #[.slice none 0 0, .int .i64 0], cellsR (w.heap.size + 1) 24 #[.slice ah h.ns.length cb, .int .i64 h.root], cellsR w.heap.size 24 #[.slice ag g.ns.length ca, .int .i64 g.root]]) → G 4 (bt 8 53) ((a0.put (some 5) (.pointer (some ⟨b5, 0, none⟩))).put (some 6) (.pointer (some ⟨b6, 0, none⟩))) wq) := ⟨by
  intro b5 b6 wq HC
  refine into_G hG ?_
  rw [hA.out]
  try simp only [Act.put, Tre.qf, Tre.qg, Tre.qh]
  have hH : (fun w' => w'.cell? ⟨w.heap.size, 0, none⟩ = some (.slice ag g.ns.length ca) ∧ w'.cell? ⟨w.heap.size, 1, none⟩ = some (.int .i64 g.root) ∧ w'.cell? ⟨w.heap.size + 1, 0, none⟩ = some (.slice ah h.ns.length cb) ∧ w'.cell? ⟨w.heap.size + 1, 1, none⟩ = some (.int .i64 h.root)) wq := ⟨HC.out.cell 3 rfl 0 rfl, HC.out.cell 3 rfl 1 rfl, HC.out.cell 2 rfl 0 rfl, HC.out.cell 2 rfl 1 rfl⟩
  refine lOne 1 (by kernel_rfl) ?_
  ·
   refine (LStep.op (fun K hK => ?_))
   go_simp
   refine (HCG.out _ HC.out.below).mono ?_
   rintro e wr ⟨vA, dA, rfl, hdA, mq⟩
   have HN1 := HC.out.call mq
   obtain ⟨aA, cA, rfl, _⟩ := HN1.val 0 rfl
   have HN := Tre.hid (HN1.addFact hdA)
   clear mq HN1 hdA
   (try dsimp only)
   have HC := Tre.hid (((((HN.out.front 0 rfl).front 2 rfl).front 2 rfl).front 4 rfl).front 4 rfl)
   clear HN
   refine hK.out _ _ ?_ (fun hH2 => ?_)
   ·exact ⟨HC.out.cell 6 rfl 0 rfl, HC.out.cell 6 rfl 1 rfl, HC.out.cell 5 rfl 0 rfl, HC.out.cell 5 rfl 1 rfl⟩
   exact outof_G hG (Z5.out aA cA dA b5 b6 wr HC) (by kernel_rfl) (by rw [hA.out]; try kernel_rfl)
 ⟩
 have Z10 : Kept (∀ (aA : Option Addr) (cA : Nat) (dA : List NodeV) (wq : World), Hid (Mem w wq [nodesR (.slice aA dA.length cA) dA, kidsR dA, factR (dA.map NodeV.n = g.closeG.ns), cellsR (w.heap.size + 1) 24 #[.slice ah h.ns.length cb, .int .i64 h.root], cellsR w.heap.size 24 #[.slice ag g.ns.length ca, .int .i64 g.root]]) → G 5 (bt 8 7) (a0.put (some 35) (.agg #[.slice aA dA.length cA, .int .i64 0])) wq) := ⟨by
  intro aA cA dA wq HC
  refine into_G hG ?_
  rw [hA.out]
  try simp only [Act.put, Tre.qf, Tre.qg, Tre.qh]
  have hH : (fun w' => w'.cell? ⟨w.heap.size, 0, none⟩ = some (.slice ag g.ns.length ca) ∧ w'.cell? ⟨w.heap.size, 1, none⟩ = some (.int .i64 g.root) ∧ w'.cell? ⟨w.heap.size + 1, 0, none⟩ = some (.slice ah h.ns.length cb) ∧ w'.cell? ⟨w.heap.size + 1, 1, none⟩ = some (.int .i64 h.root)) wq := ⟨HC.out.cell 4 rfl 0 rfl, HC.out.cell 4 rfl 1 rfl, HC.out.cell 3 rfl 0 rfl, HC.out.cell 3 rfl 1 rfl⟩
  refine lThree 3 4 5 (by kernel_rfl) ?_ ?_ ?_
  ·
   refine (LStep.op (fun K hK => ?_))
   go_simp
   refine (HCH.out _ HC.out.below).mono ?_
   rintro e wr ⟨vB, dB, rfl, hdB, mq⟩
   have HN1 := HC.out.call mq
   obtain ⟨aB, cB, rfl, _⟩ := HN1.val 0 rfl
   have HN := Tre.hid (HN1.addFact hdB)
   clear mq HN1 hdB
   (try dsimp only)
   have HC := Tre.hid ((((((HN.out.front 0 rfl).front 2 rfl).front 2 rfl).front 5 rfl).front 5 rfl).front 5 rfl)
   clear HN
   refine hK.out _ _ ?_ (fun hH2 => ?_)
   ·exact ⟨HC.out.cell 7 rfl 0 rfl, HC.out.cell 7 rfl 1 rfl, HC.out.cell 6 rfl 0 rfl, HC.out.cell 6 rfl 1 rfl⟩
   exact outof_G hG (Z6.out aA cA dA aB cB dB wr HC) (by kernel_rfl) (by rw [hA.out]; try kernel_rfl)
  ·
   have HN := Tre.hid (HC.out.allocR #[.slice none 0 0, .int .i64 0] 24)
   have hH2 : (fun w' => w'.cell? ⟨w.heap.size, 0, none⟩ = some (.slice ag g.ns.length ca) ∧ w'.cell? ⟨w.heap.size, 1, none⟩ = some (.int .i64 g.root) ∧ w'.cell? ⟨w.heap.size + 1, 0, none⟩ = some (.slice ah h.ns.length cb) ∧ w'.cell? ⟨w.heap.size + 1, 1, none⟩ = some (.int .i64 h.root)) (wq.alloc (.cells #[.slice none 0 0, .int .i64 0] 24)) := ⟨HN.out.cell 5 rfl 0 rfl, HN.out.cell 5 rfl 1 rfl, HN.out.cell 4 rfl 0 rfl, HN.out.cell 4 rfl 1 rfl⟩
   refine LStep.made (some 5) (.pointer (some ⟨wq.heap.size, 0, none⟩)) _ (by kernel_rfl) (by kernel_rfl) hH2 ?_
   exact outof_G hG (Z7.out aA cA dA wq.heap.size _ HN) (by kernel_rfl) (by rw [hA.out]; try kernel_rfl)
  ·
   have HN := Tre.hid (HC.out.allocR #[.slice none 0 0, .int .i64 0] 24)
   have hH2 : (fun w' => w'.cell? ⟨w.heap.size, 0, none⟩ = some (.slice ag g.ns.length ca) ∧ w'.cell? ⟨w.heap.size, 1, none⟩ = some (.int .i64 g.root) ∧ w'.cell? ⟨w.heap.size + 1, 0, none⟩ = some (.slice ah h.ns.length cb) ∧ w'.cell? ⟨w.heap.size + 1, 1, none⟩ = some (.int .i64 h.root)) (wq.alloc (.cells #[.slice none 0 0, .int .i64 0] 24)) := ⟨HN.out.cell 5 rfl 0 rfl, HN.out.cell 5 rfl 1 rfl, HN.out.cell 4 rfl 0 rfl, HN.out.cell 4 rfl 1 rfl⟩
   refine LStep.made (some 6) (.pointer (some ⟨wq.heap.size, 0, none⟩)) _ (by kernel_rfl) (by kernel_rfl) hH2 ?_
   exact outof_G hG (Z8.out aA cA dA wq.heap.size _ HN) (by kernel_rfl) (by rw [hA.out]; try kernel_rfl)
 ⟩
 have Z11 : Kept (∀ (b5 : Nat) (wq : World), Hid (Mem w wq [cellsR b5 24 #[.slice none 0 0, .int .i64 0], cellsR (w.heap.size + 1) 24 #[.slice ah h.ns.length cb, .int .i64 h.root], cellsR w.heap.size 24 #[.slice ag g.ns.length ca, .int .i64 g.root]]) → G 5 (bt 8 21) (a0.put (some 5) (.pointer (some ⟨b5, 0, none⟩))) wq) := ⟨by
  intro b5 wq HC
  refine into_G hG ?_
  rw [hA.out]
  try simp only [Act.put, Tre.qf, Tre.qg, Tre.qh]
  have hH : (fun w' => w'.cell? ⟨w.heap.size, 0, none⟩ = some (.slice ag g.ns.length ca) ∧ w'.cell? ⟨w.heap.size, 1, none⟩ = some (.int .i64 g.root) ∧ w'.cell? ⟨w.heap.size + 1, 0, none⟩ = some (.slice ah h.ns.length cb) ∧ w'.cell? ⟨w.heap.size + 1, 1, none⟩ = some (.int .i64 h.root)) wq := ⟨HC.out.cell 2 rfl 0 rfl, HC.out.cell 2 rfl 1 rfl, HC.out.cell 1 rfl 0 rfl, HC.out.cell 1 rfl 1 rfl⟩
  refine lTwo 1 5 (by kernel_rfl) ?_ ?_
  ·
   refine (LStep.op (fun K hK => ?_))
   go_simp
   refine (HCG.out _ HC.out.below).mono ?_
   rintro e wr ⟨vA, dA, rfl, hdA, mq⟩
   have HN1 := HC.out.call mq
   obtain ⟨aA, cA, rfl, _⟩ := HN1.val 0 rfl
   have HN := Tre.hid (HN1.addFact hdA)
   clear mq HN1 hdA
   (try dsimp only)
   have HC := Tre.hid ((((HN.out.front 0 rfl).front 2 rfl).front 2 rfl).front 3 rfl)
   clear HN
   refine hK.out _ _ ?_ (fun hH2 => ?_)
   ·exact ⟨HC.out.cell 5 rfl 0 rfl, HC.out.cell 5 rfl 1 rfl, HC.out.cell 4 rfl 0 rfl, HC.out.cell 4 rfl 1 rfl⟩
   exact outof_G hG (Z7.out aA cA dA b5 wr HC) (by kernel_rfl) (by rw [hA.out]; try kernel_rfl)
  ·
   have HN := Tre.hid (HC.out.allocR #[.slice none 0 0, .int .i64 0] 24)
   have HC := Tre.hid ((HN.out.front 0 rfl).front 1 rfl)
   clear HN
   have hH2 : (fun w' => w'.cell? ⟨w.heap.size, 0, none⟩ = some (.slice ag g.ns.length ca) ∧ w'.cell? ⟨w.heap.size, 1, none⟩ = some (.int .i64 g.root) ∧ w'.cell? ⟨w.heap.size + 1, 0, none⟩ = some (.slice ah h.ns.length cb) ∧ w'.cell? ⟨w.heap.size + 1, 1, none⟩ = some (.int .i64 h.root)) (wq.alloc (.cells #[.slice none 0 0, .int .i64 0] 24)) := ⟨HC.out.cell 3 rfl 0 rfl, HC.out.cell 3 rfl 1 rfl, HC.out.cell 2 rfl 0 rfl, HC.out.cell 2 rfl 1 rfl⟩
   refine LStep.made (some 6) (.pointer (some ⟨wq.heap.size, 0, none⟩)) _ (by kernel_rfl) (by kernel_rfl) hH2 ?_
   exact outof_G hG (Z9.out b5 wq.heap.size _ HC) (by kernel_rfl) (by rw [hA.out]; try kernel_rfl)
 ⟩
 have Z12 : Kept (∀ (b6 : Nat) (wq : World), Hid (Mem w wq [cellsR b6 24 #[.slice none 0 0, .int .i64 0], cellsR (w.heap.size + 1) 24 #[.slice ah h.ns.length cb, .int .i64 h.root], cellsR w.heap.size 24 #[.slice ag g.ns.length ca, .int .i64 g.root]]) → G 5 (bt 8 37) (a0.put (some 6) (.pointer (some ⟨b6, 0, none⟩))) wq) := ⟨by
  intro b6 wq HC
  refine into_G hG ?_
  rw [hA.out]
  try simp only [Act.put, Tre.qf, Tre.qg, Tre.qh]
  have hH : (fun w' => w'.cell? ⟨w.heap.size, 0, none⟩ = some (.slice ag g.ns.length ca) ∧ w'.cell? ⟨w.heap.size, 1, none⟩ = some (.int .i64 g.root) ∧ w'.cell? ⟨w.heap.size + 1, 0, none⟩ = some (.slice ah h.ns.length cb) ∧ w'.cell? ⟨w.heap.size + 1, 1, none⟩ = some (.int .i64 h.root)) wq := ⟨HC.out.cell 2 rfl 0 rfl, HC.out.cell 2 rfl 1 rfl, HC.out.cell 1 rfl 0 rfl, HC.out.cell 1 rfl 1 rfl⟩
  refine lTwo 1 4 (by kernel_rfl) ?_ ?_
  ·
   refine (LStep.op (fun K hK => ?_))
   go_simp
   refine (HCG.out _ HC.out.below).mono ?_
   rintro e wr ⟨vA, dA, rfl, hdA, mq⟩
   have HN1 := HC.out.call mq
   obtain ⟨aA, cA, rfl, _⟩ := HN1.val 0 rfl
   have HN := Tre.hid (HN1.addFact hdA)
   clear mq HN1 hdA
   (try dsimp only)
   have HC := Tre.hid ((((HN.out.front 0 rfl).front 2 rfl).front 2 rfl).front 3 rfl)
   clear HN
   refine hK.out _ _ ?_ (fun hH2 => ?_)
   ·exact ⟨HC.out.cell 5 rfl 0 rfl, HC.out.cell 5 rfl 1 rfl, HC.out.cell 4 rfl 0 rfl, HC.out.cell 4 rfl 1 rfl⟩
   exact outof_G hG (Z8.out aA cA dA b6 wr HC) (by kernel_rfl) (by rw [hA.out]; try kernel_rfl)
  ·
   have HN := Tre.hid (HC.out.allocR #[.slice none 0 0, .int .i64 0] 24)
   have hH2 : (fun w' => w'.cell? ⟨w.heap.size, 0, none⟩ = some (.slice ag g.ns.length ca) ∧ w'.cell? ⟨w.heap.size, 1, none⟩ = some (.int .i64 g.root) ∧ w'.cell? ⟨w.heap.size + 1, 0, none⟩ = some (.slice ah h.ns.length cb) ∧ w'.cell? ⟨w.heap.size + 1, 1, none⟩ = some (.int .i64 h.root)) (wq.alloc (.cells #[.slice none 0 0, .int .i64 0] 24)) := ⟨HN.out.cell 3 rfl 0 rfl, HN.out.cell 3 rfl 1 rfl, HN.out.cell 2 rfl 0 rfl, HN.out.cell 2 rfl 1 rfl⟩
   refine LStep.made (some 5) (.pointer (some ⟨wq.heap.size, 0, none⟩)) _ (by kernel_rfl) (by kernel_rfl) hH2 ?_
   exact outof_G hG (Z9.out wq.heap.size b6 _ HN) (by kernel_rfl) (by rw [hA.out]; try kernel_rfl)
 ⟩
 have Z13 : Kept (∀ (wq : World), Hid (Mem w wq [cellsR (w.heap.size + 1) 24 #[.slice ah h.ns.length cb, .int .i64 h.root], cellsR w.heap.size 24 #[.slice ag g.ns.length ca, .int .i64 g.root]]) → G 6 (bt 8 5) (a0) wq) := ⟨by
  intro  wq HC
  refine into_G hG ?_
  rw [hA.out]
  try simp only [Act.put, Tre.qf, Tre.qg, Tre.qh]
  have hH : (fun w' => w'.cell? ⟨w.heap.size, 0, none⟩ = some (.slice ag g.ns.length ca) ∧ w'.cell? ⟨w.heap.size, 1, none⟩ = some (.int .i64 g.root) ∧ w'.cell? ⟨w.heap.size + 1, 0, none⟩ = some (.slice ah h.ns.length cb) ∧ w'.cell? ⟨w.heap.size + 1, 1, none⟩ = some (.int .i64 h.root)) wq := ⟨HC.out.cell 1 rfl 0 rfl, HC.out.cell 1 rfl 1 rfl, HC.out.cell 0 rfl 0 rfl, HC.out.cell 0 rfl 1 rfl⟩
  refine lThree 1 4 5 (by kernel_rfl) ?_ ?_ ?_
  ·
   refine (LStep.op (fun K hK => ?_))
   go_simp
   refine (HCG.out _ HC.out.below).mono ?_
   rintro e wr ⟨vA, dA, rfl, hdA, mq⟩
   have HN1 := HC.out.call mq
   obtain ⟨aA, cA, rfl, _⟩ := HN1.val 0 rfl
   have HN := Tre.hid (HN1.addFact hdA)
   clear mq HN1 hdA
   (try dsimp only)
   have HC := Tre.hid (((HN.out.front 0 rfl).front 2 rfl).front 2 rfl)
   clear HN
   refine hK.out _ _ ?_ (fun hH2 => ?_)
   ·exact ⟨HC.out.cell 4 rfl 0 rfl, HC.out.cell 4 rfl 1 rfl, HC.out.cell 3 rfl 0 rfl, HC.out.cell 3 rfl 1 rfl⟩
   exact outof_G hG (Z10.out aA cA dA wr HC) (by kernel_rfl) (by rw [hA.out]; try kernel_rfl)
  ·
   have HN := Tre.hid (HC.out.allocR #[.slice none 0 0, .int .i64 0] 24)
   have hH2 : (fun w' => w'.cell? ⟨w.heap.size, 0, none⟩ = some (.slice ag g.ns.length ca) ∧ w'.cell? ⟨w.heap.size, 1, none⟩ = some (.int .i64 g.root) ∧ w'.cell? ⟨w.heap.size + 1, 0, none⟩ = some (.slice ah h.ns.length cb) ∧ w'.cell? ⟨w.heap.size + 1, 1, none⟩ = some (.int .i64 h.root)) (wq.alloc (.cells #[.slice none 0 0, .int .i64 0] 24)) := ⟨HN.out.cell 2 rfl 0 rfl, HN.out.cell 2 rfl 1 rfl, HN.out.cell 1 rfl 0 rfl, HN.out.cell 1 rfl 1 rfl⟩
   refine LStep.made (some 5) (.pointer (some ⟨wq.heap.size, 0, none⟩)) _ (by kernel_rfl) (by kernel_rfl) hH2 ?_
   exact outof_G hG (Z11.out wq.heap.size _ HN) (by kernel_rfl) (by rw [hA.out]; try kernel_rfl)
  ·
   have HN := Tre.hid (HC.out.allocR #[.slice none 0 0, .int .i64 0] 24)
   have hH2 : (fun w' => w'.cell? ⟨w.heap.size, 0, none⟩ = some (.slice ag g.ns.length ca) ∧ w'.cell? ⟨w.heap.size, 1, none⟩ = some (.int .i64 g.root) ∧ w'.cell? ⟨w.heap.size + 1, 0, none⟩ = some (.slice ah h.ns.length cb) ∧ w'.cell? ⟨w.heap.size + 1, 1, none⟩ = some (.int .i64 h.root)) (wq.alloc (.cells #[.slice none 0 0, .int .i64 0] 24)) := ⟨HN.out.cell 2 rfl 0 rfl, HN.out.cell 2 rfl 1 rfl, HN.out.cell 1 rfl 0 rfl, HN.out.cell 1 rfl 1 rfl⟩
   refine LStep.made (some 6) (.pointer (some ⟨wq.heap.size, 0, none⟩)) _ (by kernel_rfl) (by kernel_rfl) hH2 ?_
   exact outof_G hG (Z12.out wq.heap.size _ HN) (by kernel_rfl) (by rw [hA.out]; try kernel_rfl)
 ⟩
 exact Z13.out  wq0 HC
end Go.Proofs.YtoieknnnadgfpaaGreatDoor.gr
