/- SubPairs: the walk. -/
import Derived.Test.YtoieknnnadgfpaaGreatDoorB36
import Derived.Test.YtoieknnnadgfpaaGreatDoorB38
import Derived.Test.YtoieknnnadgfpaaGreatDoorB37
import Derived.Test.YtoieknnnadgfpaaGreatDoorB00
import Derived.IntWalk
set_option linter.unusedVariables false
namespace Go.Tre
theorem top_weight' (g : Tre.Graph) (x : Tre.Node) : (topG g x).weight = g.weight + x.weight := by
 unfold Graph.weight topG
 rw [List.map_append, List.sum_append]
 simp
theorem shift_weight (k : Nat) (x : Tre.Node) : (shiftN k x).weight = x.weight := by unfold Node.weight shiftN; simp
theorem join_weight (g h : Tre.Graph) : (joinG g h).weight = g.weight + h.weight := by
 unfold Graph.weight joinG
 rw [List.map_append, List.sum_append, List.map_map]
 have e : ∀ l : List Tre.Node, (l.map (Node.weight ∘ shiftN g.ns.length)) = l.map Node.weight := fun l => List.map_congr_left (fun x _ => shift_weight _ x)
 rw [e]
theorem of_weight (s : ByteArray) (g h : Tre.Graph) : (ofG s g h).weight = g.weight + h.weight + (s.size + 3) := by
 unfold ofG
 rw [top_weight', join_weight]
 have e : ∀ p q : Int, (conN s p q).weight = s.size + 3 := fun p q => by unfold Node.weight conN; simp; omega
 rw [e]
theorem of_len (s : ByteArray) (g h : Tre.Graph) : (ofG s g h).ns.length = g.ns.length + h.ns.length + 1 := by
 show (topG (joinG g h) _).ns.length = _
 rw [top_len, join_len]
theorem of_root (s : ByteArray) (g h : Tre.Graph) : (ofG s g h).root = (g.ns.length : Int) + (h.ns.length : Int) := by
 show (((joinG g h).ns.length : Nat) : Int) = _
 rw [join_len, Int.natCast_add]
end Go.Tre
namespace Go.Proofs.YtoieknnnadgfpaaGreatDoor.gr
open Go.RowKit Go.Shelf Go.Maps Go.Tre lex
theorem below_below {w w1 w2 : World} (h : Below w.heap.size w w1) (k : Below w1.heap.size w1 w2) : Below w.heap.size w w2 := ((Mem.of_below h).quiet k).below
structure CF (w : World) (b o : Nat) (ds : List NodeV) (A : Tre.Graph) (n : Nat) : Prop where
 na : NodesAt w (some ⟨b, o, none⟩) A.ns
 hd : ds.map NodeV.n = A.ns
 hc : ∀ j u, (ds.flatMap NodeV.cells)[j]? = some u → w.cell? ⟨b, o + j, none⟩ = some u
 hv : ∀ d ∈ ds, NodeVal w d
 c0 : A.checkC = 0
 sh : A.Shut
 rt : A.root = 0
 len : A.ns.length = n
 dl : ds.length = n
 le : n ≤ 80
 hk : ∀ d ∈ ds, ∀ j (hj : j < d.n.args.length), ∃ y : Nat, d.n.args[j] = (y : Int) ∧ y < ds.length
 hal : ∀ d ∈ ds, d.n.args.length ≤ 1048576
theorem cf_of {w : World} {x : Option Addr} {G : Tre.Graph} (cG : G.checkC = 0) (hg : G.great ≤ 80) (wg : G.weight + 4 * G.ns.length ≤ 1048576) (h : NodesAt w x G.closeG.ns) : ∃ b o ds n, x = some ⟨b, o, none⟩ ∧ CF w b o ds G.closeG n := by
 have c0 := close_ok cG
 have ok := Graph.ok_of c0
 have h0 : 0 < G.closeG.ns.length := by have h1 := ok.root0; have h2 := ok.root1; omega
 obtain ⟨b, o, rfl, _⟩ := h.at_ 0 G.closeG.ns[0] (List.getElem?_eq_getElem h0)
 obtain ⟨ds, hds, hcs, hvs⟩ := nodes_vals h
 have hl : ds.length = G.closeG.ns.length := by rw [← hds, List.length_map]
 have gl : G.ns.length ≤ 80 := by have := G.great_len; omega
 refine ⟨b, o, ds, _, rfl, h, hds, hcs, hvs, c0, close_shut cG, rfl, rfl, hl, Nat.le_trans close_len gl, fun d hd j hj => ?_, fun d hd => ?_⟩
 ·have hm : d.n ∈ G.closeG.ns := by rw [← hds]; exact List.mem_map.2 ⟨d, hd, rfl⟩
  obtain ⟨i, hi, e⟩ := List.getElem_of_mem hm
  obtain ⟨y, hy, _, hy2⟩ := ok.arg hi (show j < G.closeG.deg i by unfold Graph.deg; rw [Graph.nd_eq hi, e]; exact hj)
  rw [Graph.nd_eq hi, e, List.getElem?_eq_getElem hj] at hy
  exact ⟨y, Option.some.inj hy, by rw [hl]; exact hy2⟩
 ·have hm : d.n ∈ G.closeG.ns := by rw [← hds]; exact List.mem_map.2 ⟨d, hd, rfl⟩
  have h1 := node_weight hm
  have h2 := closeG_weight G
  have h3 : d.n.args.length ≤ d.n.weight := by unfold Node.weight; omega
  have h4 : G.closeG.weight = (G.closeG.ns.map Node.weight).sum := rfl
  omega
abbrev ofZ (a : Option Addr) (c k : Nat) (dX dY dn : List NodeV) (s : ByteArray) : Res := ofR a c k dX dY dn s ((0 : Nat) : Int) ((dX.length : Int) + ((0 : Nat) : Int))
theorem of_call {w W : World} {b1 o1 b2 o2 n1 n2 : Nat} {d1 d2 : List NodeV} {A B : Tre.Graph} (c1 c2 : Nat) (s : ByteArray) (hA : CF w b1 o1 d1 A n1) (hB : CF w b2 o2 d2 B n2) (hb : Below w.heap.size w W) :
  Calls Tryz.prog 13 #[.string s, .agg #[.slice (some ⟨b1, o1, none⟩) n1 c1, .int .i64 0], .agg #[.slice (some ⟨b2, o2, none⟩) n2 c2, .int .i64 0]] W fun e w' =>
   ∃ a c k dn, e = .returned (.agg #[.slice a (n1 + n2 + 1) c, .int .i64 ((n1 : Int) + (n2 : Int))]) ∧ Mem W w' [ofZ a c k d1 d2 dn s] := by
 have h1 := hA.le
 have h2 := hB.le
 have e1 := hA.dl
 have e2 := hB.dl
 have K := of_any b1 o1 c1 0 b2 o2 c2 0 d1 d2 s W (fun j u h => cell_below hb (hA.hc j u h)) (fun d hd => (hA.hv d hd).below hb) (fun j u h => cell_below hb (hB.hc j u h)) (fun d hd => (hB.hv d hd).below hb) (by omega) (by omega) (by omega) hB.hk hB.hal
 rw [e1, e2] at K
 refine K.mono ?_
 rintro e w' ⟨a, c, k, dn, rfl, hm⟩
 refine ⟨a, c, k, dn, rfl, ?_⟩
 unfold ofZ
 rw [e1]
 exact hm
theorem may_call {w W : World} {b1 o1 b2 o2 n1 n2 : Nat} {d1 d2 : List NodeV} {A B : Tre.Graph} (c1 c2 : Nat) (hA : CF w b1 o1 d1 A n1) (hB : CF w b2 o2 d2 B n2) (wA : A.weight ≤ 2097152) (wB : B.weight ≤ 2097152) (hb : Below w.heap.size w W) (hx : MaxAt w) :
  Calls Tryz.prog 12 #[.agg #[.slice (some ⟨b1, o1, none⟩) n1 c1, .int .i64 0], .agg #[.slice (some ⟨b2, o2, none⟩) n2 c2, .int .i64 0]] W fun e w' => e = .returned (.bool (subB A B)) ∧ Below W.heap.size W w' := by
 have h1 := hA.le
 have h2 := hB.le
 have K := mays_any (some ⟨b1, o1, none⟩) (some ⟨b2, o2, none⟩) c1 c2 A B W (hA.na.below hb) (hB.na.below hb) wA wB (by rw [hA.len]; omega) (by rw [hB.len]; omega) (hx.below hb) hA.c0 hB.c0 hA.sh hB.sh
 rw [hA.len, hB.len, hA.rt, hB.rt] at K
 exact K
theorem of_may {w W : World} {p0 o0 p1 o1 p2 o2 p3 o3 n0 n1 n2 n3 : Nat} {d0 d1 d2 d3 dn dm : List NodeV} {A B C D : Tre.Graph} {s : ByteArray} {a a' : Option Addr} {c c' k k' : Nat} (hs : arity s = some 2) (hz : s.size ≤ 2) (hA : CF w p0 o0 d0 A n0) (hB : CF w p1 o1 d1 B n1) (hC : CF w p2 o2 d2 C n2) (hD : CF w p3 o3 d3 D n3)
  (wAB : A.weight + B.weight ≤ 2097147) (wCD : C.weight + D.weight ≤ 2097147) (hb : Below w.heap.size w W) (hx : MaxAt w) (r1 : (ofZ a c k d0 d1 dn s).P W) (r2 : (ofZ a' c' k' d2 d3 dm s).P W) :
  Calls Tryz.prog 12 #[.agg #[.slice a (n0 + n1 + 1) c, .int .i64 ((n0 : Int) + (n1 : Int))], .agg #[.slice a' (n2 + n3 + 1) c', .int .i64 ((n2 : Int) + (n3 : Int))]] W fun e w' => e = .returned (.bool ((if s = arrowB then subB C A else subB A C) && subB B D)) ∧ Below W.heap.size W w' := by
 have l0 := hA.le
 have l1 := hB.le
 have l2 := hC.le
 have l3 := hD.le
 have m0 := hA.len
 have m1 := hB.len
 have m2 := hC.len
 have m3 := hD.len
 have z : ∀ g : Tre.Graph, g.root = 0 → g.root.toNat = 0 := fun g h => by rw [h]; rfl
 have N1 := of_nodes r1 hb hA.hd hB.hd hA.hv hB.hv (z _ hA.rt) (z _ hB.rt)
 have N2 := of_nodes r2 hb hC.hd hD.hd hC.hv hD.hv (z _ hC.rt) (z _ hD.rt)
 have K := mays_any a a' c c' (ofG s A B) (ofG s C D) W N1 N2 (by rw [of_weight]; omega) (by rw [of_weight]; omega) (by rw [of_len]; omega) (by rw [of_len]; omega) (hx.below hb) (of_ok hs hA.c0 hB.c0 (by omega)) (of_ok hs hC.c0 hD.c0 (by omega)) (of_shut hs hA.c0 hB.c0 (by omega) hA.sh hB.sh) (of_shut hs hC.c0 hD.c0 (by omega) hC.sh hD.sh)
 rw [of_sub hs hA.c0 hB.c0 hC.c0 hD.c0 (by omega) (by omega), of_len, of_len, of_root, of_root, m0, m1, m2, m3] at K
 exact K
theorem idxF0 (x0 x1 x2 x3 x4 x5 x6 x7 : Value) (w : World) : (Instr.index 37 (.agg #[x0, x1, x2, x3, x4, x5, x6, x7]) (.int .i64 0)).run Tryz.prog w = .ok (.agg #[x0, x1]) w := by kernel_rfl
theorem idxF1 (x0 x1 x2 x3 x4 x5 x6 x7 : Value) (w : World) : (Instr.index 37 (.agg #[x0, x1, x2, x3, x4, x5, x6, x7]) (.int .i64 1)).run Tryz.prog w = .ok (.agg #[x2, x3]) w := by kernel_rfl
theorem idxF2 (x0 x1 x2 x3 x4 x5 x6 x7 : Value) (w : World) : (Instr.index 37 (.agg #[x0, x1, x2, x3, x4, x5, x6, x7]) (.int .i64 2)).run Tryz.prog w = .ok (.agg #[x4, x5]) w := by kernel_rfl
theorem idxF3 (x0 x1 x2 x3 x4 x5 x6 x7 : Value) (w : World) : (Instr.index 37 (.agg #[x0, x1, x2, x3, x4, x5, x6, x7]) (.int .i64 3)).run Tryz.prog w = .ok (.agg #[x6, x7]) w := by kernel_rfl
set_option maxRecDepth 100000 in
set_option maxHeartbeats 16000000 in
theorem pairsLaw12 (q0 q1 q2 q3 : Option Addr) (c0 c1 c2 c3 : Nat) (G0 G1 G2 G3 : Tre.Graph) (w : World) (h0 : NodesAt w q0 G0.ns) (h1 : NodesAt w q1 G1.ns) (h2 : NodesAt w q2 G2.ns) (h3 : NodesAt w q3 G3.ns)
  (wg : (G0.weight + 5 * G0.ns.length + 3) + (G1.weight + 5 * G1.ns.length + 3) + (G2.weight + 5 * G2.ns.length + 3) + (G3.weight + 5 * G3.ns.length + 3) ≤ 1048576) (E : LexEnv w) :
  Calls Tryz.prog 4 #[.agg #[.slice q0 G0.ns.length c0, .int .i64 G0.root, .slice q1 G1.ns.length c1, .int .i64 G1.root, .slice q2 G2.ns.length c2, .int .i64 G2.root, .slice q3 G3.ns.length c3, .int .i64 G3.root]] w fun e w' => e = .returned (.bool true) ∧ Below w.heap.size w w' := by
 have M := (Mem.nil w).allocR #[.slice q0 G0.ns.length c0, .int .i64 G0.root, .slice q1 G1.ns.length c1, .int .i64 G1.root, .slice q2 G2.ns.length c2, .int .i64 G2.root, .slice q3 G3.ns.length c3, .int .i64 G3.root] 36
 have HM0 := Tre.hid M
 have HX := Tre.hid E.max
 have HG0 := Tre.hid h0
 have HG1 := Tre.hid h1
 have HG2 := Tre.hid h2
 have HG3 := Tre.hid h3
 have HAL := Tre.hid (alive12 _ (E.below M.below))
 have HWG := Tre.hid wg
 clear E h0 h1 h2 h3 M
 go_enter Tryz.func4, Tryz.ntmps4
 go_wp2_with fail
 refine HAL.out.mono ?_
 rintro e w1 ⟨rfl, bq⟩
 have HM1 := Tre.hid (HM0.out.quiet bq)
 clear bq HAL HM0
 go_upto_region 3 with fail
 have cS : Cond (fun w' => w'.cell? ⟨w.heap.size, 0, none⟩ = some (.slice q0 G0.ns.length c0) ∧ w'.cell? ⟨w.heap.size, 1, none⟩ = some (.int .i64 G0.root) ∧ w'.cell? ⟨w.heap.size, 2, none⟩ = some (.slice q1 G1.ns.length c1) ∧ w'.cell? ⟨w.heap.size, 3, none⟩ = some (.int .i64 G1.root) ∧ w'.cell? ⟨w.heap.size, 4, none⟩ = some (.slice q2 G2.ns.length c2) ∧ w'.cell? ⟨w.heap.size, 5, none⟩ = some (.int .i64 G2.root) ∧ w'.cell? ⟨w.heap.size, 6, none⟩ = some (.slice q3 G3.ns.length c3) ∧ w'.cell? ⟨w.heap.size, 7, none⟩ = some (.int .i64 G3.root)) := ⟨⟩
 refine cS.keep [15] ?_ (fun hH => ?_)
 ·exact ⟨HM1.out.drew.cell 0 rfl 0 rfl, HM1.out.drew.cell 0 rfl 1 rfl, HM1.out.drew.cell 0 rfl 2 rfl, HM1.out.drew.cell 0 rfl 3 rfl, HM1.out.drew.cell 0 rfl 4 rfl, HM1.out.drew.cell 0 rfl 5 rfl, HM1.out.drew.cell 0 rfl 6 rfl, HM1.out.drew.cell 0 rfl 7 rfl⟩
 have HC := Tre.hid HM1.out.drew
 generalize hq : World.drew _ = wq0 at HC hH ⊢
 clear hq
 refine lPv 0 (some 12) (.pointer (some ⟨w.heap.size, 0, none⟩)) (keep_of hH) ?_
 try simp only [Act.put, zqf, zqg, zqh]
 refine lTk 1 (some 13) (v := ?_) ?_ hH ?_
 rotate_left
 ·intro w hSw; (try dsimp only at hSw); simp only [zqa, zqb, zqc, zqd, zqe]; go_simp <;> with_reducible rfl
 try simp only [Act.put, zqf, zqg, zqh]
 refine lPv 2 (some 14) (.pointer (some ⟨w.heap.size, 2, none⟩)) (keep_of hH) ?_
 try simp only [Act.put, zqf, zqg, zqh]
 refine lTk 3 (some 15) (v := ?_) ?_ hH ?_
 rotate_left
 ·intro w hSw; (try dsimp only at hSw); simp only [zqa, zqb, zqc, zqd, zqe]; go_simp <;> with_reducible rfl
 try simp only [Act.put, zqf, zqg, zqh]
 refine lPv 4 (some 16) (.pointer (some ⟨w.heap.size, 4, none⟩)) (keep_of hH) ?_
 try simp only [Act.put, zqf, zqg, zqh]
 refine lTk 5 (some 17) (v := ?_) ?_ hH ?_
 rotate_left
 ·intro w hSw; (try dsimp only at hSw); simp only [zqa, zqb, zqc, zqd, zqe]; go_simp <;> with_reducible rfl
 try simp only [Act.put, zqf, zqg, zqh]
 refine lPv 6 (some 18) (.pointer (some ⟨w.heap.size, 6, none⟩)) (keep_of hH) ?_
 try simp only [Act.put, zqf, zqg, zqh]
 refine lTk 7 (some 19) (v := ?_) ?_ hH ?_
 rotate_left
 ·intro w hSw; (try dsimp only at hSw); simp only [zqa, zqb, zqc, zqd, zqe]; go_simp <;> with_reducible rfl
 try simp only [Act.put, zqf, zqg, zqh]
 try simp only [Act.put, zqf, zqg, zqh]
 refine with_G (G0 := wpAnyL _ _ _ _ _ _) ?_
 intro G hG a0 hA
 have Z0 : Kept (∀ (b3 : Nat) (b4 : Nat) (b5 : Nat) (b6 : Nat) (wq : World), Hid (Mem w wq [cellsR b3 24 #[.slice q0 G0.ns.length c0, .int .i64 G0.root], cellsR b4 24 #[.slice q1 G1.ns.length c1, .int .i64 G1.root], cellsR b5 24 #[.slice q2 G2.ns.length c2, .int .i64 G2.root], cellsR b6 24 #[.slice q3 G3.ns.length c3, .int .i64 G3.root], cellsR w.heap.size 36 #[.slice q0 G0.ns.length c0, .int .i64 G0.root, .slice q1 G1.ns.length c1, .int .i64 G1.root, .slice q2 G2.ns.length c2, .int .i64 G2.root, .slice q3 G3.ns.length c3, .int .i64 G3.root]]) → G 0 (bt 16 65535) ((((a0.put (some 3) (.pointer (some ⟨b3, 0, none⟩))).put (some 4) (.pointer (some ⟨b4, 0, none⟩))).put (some 5) (.pointer (some ⟨b5, 0, none⟩))).put (some 6) (.pointer (some ⟨b6, 0, none⟩))) wq) := ⟨by
  intro b3 b4 b5 b6 wq HC
  refine into_G hG ?_
  rw [hA.out]
  try simp only [Act.put, zqf, zqg, zqh]
  refine lDone (by kernel_rfl) ?_
  clear hA hG
  have HQ := HC
  clear HC
  obtain ⟨s30, s31⟩ := HQ.out.two 0 rfl
  obtain ⟨s40, s41⟩ := HQ.out.two 1 rfl
  obtain ⟨s50, s51⟩ := HQ.out.two 2 rfl
  obtain ⟨s60, s61⟩ := HQ.out.two 3 rfl
  go_wp2_with fail
  clear s30 s31 s40 s41 s50 s51 s60 s61
  go_loopw [25] (fun v25 wr => ∃ k : Nat, k ≤ 4 ∧ v25 = .int .i64 (k : Int) ∧ Hid ((0 < k → G0.great ≤ 80 ∧ G0.checkC = 0) ∧ (1 < k → G1.great ≤ 80 ∧ G1.checkC = 0) ∧ (2 < k → G2.great ≤ 80 ∧ G2.checkC = 0) ∧ (3 < k → G3.great ≤ 80 ∧ G3.checkC = 0)) ∧ Hid (Mem w wr [cellsR b3 24 #[.slice q0 G0.ns.length c0, .int .i64 G0.root], cellsR b4 24 #[.slice q1 G1.ns.length c1, .int .i64 G1.root], cellsR b5 24 #[.slice q2 G2.ns.length c2, .int .i64 G2.root], cellsR b6 24 #[.slice q3 G3.ns.length c3, .int .i64 G3.root], cellsR w.heap.size 36 #[.slice q0 G0.ns.length c0, .int .i64 G0.root, .slice q1 G1.ns.length c1, .int .i64 G1.root, .slice q2 G2.ns.length c2, .int .i64 G2.root, .slice q3 G3.ns.length c3, .int .i64 G3.root]]))
   (fun v25 _ => 4 - (intOf v25).toNat)
  case atStart => exact ⟨0, by omega, rfl, ⟨fun h => by omega, fun h => by omega, fun h => by omega, fun h => by omega⟩, HQ.out⟩
  case round =>
   obtain ⟨k, hk, rfl, hOK, HI⟩ := hrel
   obtain rfl | rfl | rfl | rfl | rfl : k = 0 ∨ k = 1 ∨ k = 2 ∨ k = 3 ∨ k = 4 := by omega
   ·have hx := idxF0
    have HA := Tre.hid (HI.out.allocR #[.slice q0 G0.ns.length c0, .int .i64 G0.root] 24)
    obtain ⟨g0, g1⟩ := HA.out.two 0 rfl
    go_wp2_with fail
    refine (great.great q0 c0 G0 _ (by have := HWG.out; omega) (HG0.out.below HA.out.below)).mono ?_
    rintro e wa ⟨rfl, bq⟩
    have HB := Tre.hid (HA.out.quiet bq)
    clear bq g0 g1 HA
    obtain ⟨g0, g1⟩ := HB.out.two 0 rfl
    by_cases tg : (80 : Int) < G0.great
    ·have t := tg
     go_wp2_with fail
     go_ret
     exact ⟨rfl, HB.out.below⟩
    have hgk : G0.great ≤ 80 := by omega
    have HGK := Tre.hid hgk
    go_wp2_with fail
    refine (check_any q0 c0 G0 _ (HG0.out.below HB.out.below) (by have := HWG.out; omega) (HX.out.below HB.out.below)).mono ?_
    rintro e wb ⟨rfl, bq⟩
    have HD := Tre.hid ((HB.out.quiet bq).drop1)
    have HDB := Tre.hid (HB.out.quiet bq)
    clear bq g0 g1 HB
    by_cases t3 : G0.checkC ≠ 0
    ·have t := not_ok t3
     go_wp2_with fail
     go_ret
     exact ⟨rfl, HDB.out.below⟩
    have ck : G0.checkC = 0 := by omega
    have u3 : (G0.checkC != 0) = false := by rw [ck]; rfl
    have CK := Tre.hid ck
    clear ck t3
    go_wp2_with fail
    go_roundw
    case rel => exact ⟨1, by omega, by go_num, ⟨fun _ => ⟨HGK.out, CK.out⟩, fun h => by omega, fun h => by omega, fun h => by omega⟩, HD.out⟩
    case measure => simp [intOf]
   ·have hx := idxF1
    have HA := Tre.hid (HI.out.allocR #[.slice q1 G1.ns.length c1, .int .i64 G1.root] 24)
    obtain ⟨g0, g1⟩ := HA.out.two 0 rfl
    go_wp2_with fail
    refine (great.great q1 c1 G1 _ (by have := HWG.out; omega) (HG1.out.below HA.out.below)).mono ?_
    rintro e wa ⟨rfl, bq⟩
    have HB := Tre.hid (HA.out.quiet bq)
    clear bq g0 g1 HA
    obtain ⟨g0, g1⟩ := HB.out.two 0 rfl
    by_cases tg : (80 : Int) < G1.great
    ·have t := tg
     go_wp2_with fail
     go_ret
     exact ⟨rfl, HB.out.below⟩
    have hgk : G1.great ≤ 80 := by omega
    have HGK := Tre.hid hgk
    go_wp2_with fail
    refine (check_any q1 c1 G1 _ (HG1.out.below HB.out.below) (by have := HWG.out; omega) (HX.out.below HB.out.below)).mono ?_
    rintro e wb ⟨rfl, bq⟩
    have HD := Tre.hid ((HB.out.quiet bq).drop1)
    have HDB := Tre.hid (HB.out.quiet bq)
    clear bq g0 g1 HB
    by_cases t3 : G1.checkC ≠ 0
    ·have t := not_ok t3
     go_wp2_with fail
     go_ret
     exact ⟨rfl, HDB.out.below⟩
    have ck : G1.checkC = 0 := by omega
    have u3 : (G1.checkC != 0) = false := by rw [ck]; rfl
    have CK := Tre.hid ck
    clear ck t3
    go_wp2_with fail
    go_roundw
    case rel => exact ⟨2, by omega, by go_num, ⟨fun h => hOK.out.1 (by omega), fun _ => ⟨HGK.out, CK.out⟩, fun h => by omega, fun h => by omega⟩, HD.out⟩
    case measure => simp [intOf]
   ·have hx := idxF2
    have HA := Tre.hid (HI.out.allocR #[.slice q2 G2.ns.length c2, .int .i64 G2.root] 24)
    obtain ⟨g0, g1⟩ := HA.out.two 0 rfl
    go_wp2_with fail
    refine (great.great q2 c2 G2 _ (by have := HWG.out; omega) (HG2.out.below HA.out.below)).mono ?_
    rintro e wa ⟨rfl, bq⟩
    have HB := Tre.hid (HA.out.quiet bq)
    clear bq g0 g1 HA
    obtain ⟨g0, g1⟩ := HB.out.two 0 rfl
    by_cases tg : (80 : Int) < G2.great
    ·have t := tg
     go_wp2_with fail
     go_ret
     exact ⟨rfl, HB.out.below⟩
    have hgk : G2.great ≤ 80 := by omega
    have HGK := Tre.hid hgk
    go_wp2_with fail
    refine (check_any q2 c2 G2 _ (HG2.out.below HB.out.below) (by have := HWG.out; omega) (HX.out.below HB.out.below)).mono ?_
    rintro e wb ⟨rfl, bq⟩
    have HD := Tre.hid ((HB.out.quiet bq).drop1)
    have HDB := Tre.hid (HB.out.quiet bq)
    clear bq g0 g1 HB
    by_cases t3 : G2.checkC ≠ 0
    ·have t := not_ok t3
     go_wp2_with fail
     go_ret
     exact ⟨rfl, HDB.out.below⟩
    have ck : G2.checkC = 0 := by omega
    have u3 : (G2.checkC != 0) = false := by rw [ck]; rfl
    have CK := Tre.hid ck
    clear ck t3
    go_wp2_with fail
    go_roundw
    case rel => exact ⟨3, by omega, by go_num, ⟨fun h => hOK.out.1 (by omega), fun h => hOK.out.2.1 (by omega), fun _ => ⟨HGK.out, CK.out⟩, fun h => by omega⟩, HD.out⟩
    case measure => simp [intOf]
   ·have hx := idxF3
    have HA := Tre.hid (HI.out.allocR #[.slice q3 G3.ns.length c3, .int .i64 G3.root] 24)
    obtain ⟨g0, g1⟩ := HA.out.two 0 rfl
    go_wp2_with fail
    refine (great.great q3 c3 G3 _ (by have := HWG.out; omega) (HG3.out.below HA.out.below)).mono ?_
    rintro e wa ⟨rfl, bq⟩
    have HB := Tre.hid (HA.out.quiet bq)
    clear bq g0 g1 HA
    obtain ⟨g0, g1⟩ := HB.out.two 0 rfl
    by_cases tg : (80 : Int) < G3.great
    ·have t := tg
     go_wp2_with fail
     go_ret
     exact ⟨rfl, HB.out.below⟩
    have hgk : G3.great ≤ 80 := by omega
    have HGK := Tre.hid hgk
    go_wp2_with fail
    refine (check_any q3 c3 G3 _ (HG3.out.below HB.out.below) (by have := HWG.out; omega) (HX.out.below HB.out.below)).mono ?_
    rintro e wb ⟨rfl, bq⟩
    have HD := Tre.hid ((HB.out.quiet bq).drop1)
    have HDB := Tre.hid (HB.out.quiet bq)
    clear bq g0 g1 HB
    by_cases t3 : G3.checkC ≠ 0
    ·have t := not_ok t3
     go_wp2_with fail
     go_ret
     exact ⟨rfl, HDB.out.below⟩
    have ck : G3.checkC = 0 := by omega
    have u3 : (G3.checkC != 0) = false := by rw [ck]; rfl
    have CK := Tre.hid ck
    clear ck t3
    go_wp2_with fail
    go_roundw
    case rel => exact ⟨4, by omega, by go_num, ⟨fun h => hOK.out.1 (by omega), fun h => hOK.out.2.1 (by omega), fun h => hOK.out.2.2.1 (by omega), fun _ => ⟨HGK.out, CK.out⟩⟩, HD.out⟩
    case measure => simp [intOf]
   ·have HM10 : Hid (Mem w wr [cellsR b3 24 #[.slice q0 G0.ns.length c0, .int .i64 G0.root], cellsR b4 24 #[.slice q1 G1.ns.length c1, .int .i64 G1.root], cellsR b5 24 #[.slice q2 G2.ns.length c2, .int .i64 G2.root], cellsR b6 24 #[.slice q3 G3.ns.length c3, .int .i64 G3.root]]) := HI.out.del 4
    obtain ⟨f0, f1, f2, f3⟩ := hOK.out
    have F0 := Tre.hid (f0 (by omega))
    have F1 := Tre.hid (f1 (by omega))
    have F2 := Tre.hid (f2 (by omega))
    have F3 := Tre.hid (f3 (by omega))
    have HC0 : Hid (∀ W, Below w.heap.size w W → Calls Tryz.prog 11 #[.agg #[.slice q0 G0.ns.length c0, .int .i64 G0.root]] W fun e w' => ∃ v ds, e = .returned (.agg #[v, .int .i64 0]) ∧ ds.map NodeV.n = G0.closeG.ns ∧ Mem W w' [nodesR v ds, kidsR ds]) := fun W hW =>
     close_any q0 c0 G0 W (HG0.out.below hW) (by have := HWG.out; omega) (HX.out.below hW) F0.out.2
    have HC1 : Hid (∀ W, Below w.heap.size w W → Calls Tryz.prog 11 #[.agg #[.slice q1 G1.ns.length c1, .int .i64 G1.root]] W fun e w' => ∃ v ds, e = .returned (.agg #[v, .int .i64 0]) ∧ ds.map NodeV.n = G1.closeG.ns ∧ Mem W w' [nodesR v ds, kidsR ds]) := fun W hW =>
     close_any q1 c1 G1 W (HG1.out.below hW) (by have := HWG.out; omega) (HX.out.below hW) F1.out.2
    have HC2 : Hid (∀ W, Below w.heap.size w W → Calls Tryz.prog 11 #[.agg #[.slice q2 G2.ns.length c2, .int .i64 G2.root]] W fun e w' => ∃ v ds, e = .returned (.agg #[v, .int .i64 0]) ∧ ds.map NodeV.n = G2.closeG.ns ∧ Mem W w' [nodesR v ds, kidsR ds]) := fun W hW =>
     close_any q2 c2 G2 W (HG2.out.below hW) (by have := HWG.out; omega) (HX.out.below hW) F2.out.2
    have HC3 : Hid (∀ W, Below w.heap.size w W → Calls Tryz.prog 11 #[.agg #[.slice q3 G3.ns.length c3, .int .i64 G3.root]] W fun e w' => ∃ v ds, e = .returned (.agg #[v, .int .i64 0]) ∧ ds.map NodeV.n = G3.closeG.ns ∧ Mem W w' [nodesR v ds, kidsR ds]) := fun W hW =>
     close_any q3 c3 G3 W (HG3.out.below hW) (by have := HWG.out; omega) (HX.out.below hW) F3.out.2
    clear f0 f1 f2 f3 hOK HI
    go_upto_region 10 with fail
    have cS : Cond (fun w' => w'.cell? ⟨b3, 0, none⟩ = some (.slice q0 G0.ns.length c0) ∧ w'.cell? ⟨b3, 1, none⟩ = some (.int .i64 G0.root) ∧ w'.cell? ⟨b4, 0, none⟩ = some (.slice q1 G1.ns.length c1) ∧ w'.cell? ⟨b4, 1, none⟩ = some (.int .i64 G1.root) ∧ w'.cell? ⟨b5, 0, none⟩ = some (.slice q2 G2.ns.length c2) ∧ w'.cell? ⟨b5, 1, none⟩ = some (.int .i64 G2.root) ∧ w'.cell? ⟨b6, 0, none⟩ = some (.slice q3 G3.ns.length c3) ∧ w'.cell? ⟨b6, 1, none⟩ = some (.int .i64 G3.root)) := ⟨⟩
    refine cS.keep [8] ?_ (fun hH => ?_)
    ·exact ⟨HM10.out.drew.cell 0 rfl 0 rfl, HM10.out.drew.cell 0 rfl 1 rfl, HM10.out.drew.cell 1 rfl 0 rfl, HM10.out.drew.cell 1 rfl 1 rfl, HM10.out.drew.cell 2 rfl 0 rfl, HM10.out.drew.cell 2 rfl 1 rfl, HM10.out.drew.cell 3 rfl 0 rfl, HM10.out.drew.cell 3 rfl 1 rfl⟩
    have HC := Tre.hid HM10.out.drew
    generalize hq : World.drew _ = wq0 at HC hH ⊢
    clear hq
    try simp only [Act.put, zqf, zqg, zqh]
    refine lTk 0 (some 37) (v := ?_) ?_ hH ?_
    rotate_left
    ·intro w hSw; (try dsimp only at hSw); simp only [zqa, zqc, zqd, zqe]; go_simp <;> with_reducible rfl
    try simp only [Act.put, zqf, zqg, zqh]
    try simp only [Act.put, zqf, zqg, zqh]
    refine lTk 2 (some 39) (v := ?_) ?_ hH ?_
    rotate_left
    ·intro w hSw; (try dsimp only at hSw); simp only [zqa, zqb, zqc, zqd, zqe]; go_simp <;> with_reducible rfl
    try simp only [Act.put, zqf, zqg, zqh]
    try simp only [Act.put, zqf, zqg, zqh]
    refine lTk 4 (some 41) (v := ?_) ?_ hH ?_
    rotate_left
    ·intro w hSw; (try dsimp only at hSw); simp only [zqa, zqb, zqc, zqd, zqe]; go_simp <;> with_reducible rfl
    try simp only [Act.put, zqf, zqg, zqh]
    try simp only [Act.put, zqf, zqg, zqh]
    refine lTk 6 (some 43) (v := ?_) ?_ hH ?_
    rotate_left
    ·intro w hSw; (try dsimp only at hSw); simp only [zqa, zqb, zqc, zqd, zqe]; go_simp <;> with_reducible rfl
    try simp only [Act.put, zqf, zqg, zqh]
    try simp only [Act.put, zqf, zqg, zqh]
    refine with_G (G0 := wpAnyL _ _ _ _ _ _) ?_
    intro G hG a0 hA
    have Z0 : Kept (∀ (x0 : Option Addr) (cc0 : Nat) (d0 : List NodeV) (x1 : Option Addr) (cc1 : Nat) (d1 : List NodeV) (x2 : Option Addr) (cc2 : Nat) (d2 : List NodeV) (x3 : Option Addr) (cc3 : Nat) (d3 : List NodeV) (wq : World), Hid (Mem w wq [nodesR (.slice x0 d0.length cc0) d0, kidsR d0, factR (d0.map NodeV.n = G0.closeG.ns), nodesR (.slice x1 d1.length cc1) d1, kidsR d1, factR (d1.map NodeV.n = G1.closeG.ns), nodesR (.slice x2 d2.length cc2) d2, kidsR d2, factR (d2.map NodeV.n = G2.closeG.ns), nodesR (.slice x3 d3.length cc3) d3, kidsR d3, factR (d3.map NodeV.n = G3.closeG.ns), cellsR b3 24 #[.slice x0 d0.length cc0, .int .i64 0], cellsR b4 24 #[.slice x1 d1.length cc1, .int .i64 0], cellsR b5 24 #[.slice x2 d2.length cc2, .int .i64 0], cellsR b6 24 #[.slice x3 d3.length cc3, .int .i64 0]]) → G 0 (bt 12 4095) ((((a0.put (some 38) (.agg #[.slice x0 d0.length cc0, .int .i64 0])).put (some 40) (.agg #[.slice x1 d1.length cc1, .int .i64 0])).put (some 42) (.agg #[.slice x2 d2.length cc2, .int .i64 0])).put (some 44) (.agg #[.slice x3 d3.length cc3, .int .i64 0])) wq) := ⟨by
     intro x0 cc0 d0 x1 cc1 d1 x2 cc2 d2 x3 cc3 d3 wq HC
     refine into_G hG ?_
     rw [hA.out]
     try simp only [Act.put, zqf, zqg, zqh]
     refine lDone (by kernel_rfl) ?_
     clear hA hG
     obtain ⟨w5, hw5⟩ : ∃ w5 : World, wq = w5 := ⟨_, rfl⟩
     rw [hw5] at HC ⊢
     clear hw5
     have HBW := Tre.hid HC.out.below
     have hx5 := HX.out.below HC.out.below
     have hwg := HWG.out
     have E0 : d0.map NodeV.n = G0.closeG.ns := HC.out.at_ 2 rfl
     have N0 := nodes_read (HC.out.at_ 0 rfl) (HC.out.at_ 1 rfl)
     rw [E0] at N0
     obtain ⟨p0, o0, e0, n0, rfl, hf0⟩ := cf_of F0.out.2 F0.out.1 (by omega) N0
     have L0 : d0.length = n0 := by rw [← hf0.len, ← E0, List.length_map]
     have Q30 : Hid (w5.cell? ⟨b3, 0, none⟩ = some (.slice (some ⟨p0, o0, none⟩) n0 cc0)) := by have h := HC.out.cell 12 rfl 0 rfl; rw [L0] at h; exact h
     have Q31 : Hid (w5.cell? ⟨b3, 1, none⟩ = some (.int .i64 0)) := HC.out.cell 12 rfl 1 rfl
     have W0 := closeG_weight G0
     have E1 : d1.map NodeV.n = G1.closeG.ns := HC.out.at_ 5 rfl
     have N1 := nodes_read (HC.out.at_ 3 rfl) (HC.out.at_ 4 rfl)
     rw [E1] at N1
     obtain ⟨p1, o1, e1, n1, rfl, hf1⟩ := cf_of F1.out.2 F1.out.1 (by omega) N1
     have L1 : d1.length = n1 := by rw [← hf1.len, ← E1, List.length_map]
     have Q40 : Hid (w5.cell? ⟨b4, 0, none⟩ = some (.slice (some ⟨p1, o1, none⟩) n1 cc1)) := by have h := HC.out.cell 13 rfl 0 rfl; rw [L1] at h; exact h
     have Q41 : Hid (w5.cell? ⟨b4, 1, none⟩ = some (.int .i64 0)) := HC.out.cell 13 rfl 1 rfl
     have W1 := closeG_weight G1
     have E2 : d2.map NodeV.n = G2.closeG.ns := HC.out.at_ 8 rfl
     have N2 := nodes_read (HC.out.at_ 6 rfl) (HC.out.at_ 7 rfl)
     rw [E2] at N2
     obtain ⟨p2, o2, e2, n2, rfl, hf2⟩ := cf_of F2.out.2 F2.out.1 (by omega) N2
     have L2 : d2.length = n2 := by rw [← hf2.len, ← E2, List.length_map]
     have Q50 : Hid (w5.cell? ⟨b5, 0, none⟩ = some (.slice (some ⟨p2, o2, none⟩) n2 cc2)) := by have h := HC.out.cell 14 rfl 0 rfl; rw [L2] at h; exact h
     have Q51 : Hid (w5.cell? ⟨b5, 1, none⟩ = some (.int .i64 0)) := HC.out.cell 14 rfl 1 rfl
     have W2 := closeG_weight G2
     have E3 : d3.map NodeV.n = G3.closeG.ns := HC.out.at_ 11 rfl
     have N3 := nodes_read (HC.out.at_ 9 rfl) (HC.out.at_ 10 rfl)
     rw [E3] at N3
     obtain ⟨p3, o3, e3, n3, rfl, hf3⟩ := cf_of F3.out.2 F3.out.1 (by omega) N3
     have L3 : d3.length = n3 := by rw [← hf3.len, ← E3, List.length_map]
     have Q60 : Hid (w5.cell? ⟨b6, 0, none⟩ = some (.slice (some ⟨p3, o3, none⟩) n3 cc3)) := by have h := HC.out.cell 15 rfl 0 rfl; rw [L3] at h; exact h
     have Q61 : Hid (w5.cell? ⟨b6, 1, none⟩ = some (.int .i64 0)) := HC.out.cell 15 rfl 1 rfl
     have W3 := closeG_weight G3
     rw [L0, L1, L2, L3]
     obtain ⟨rac, hac⟩ : ∃ r, subB G0.closeG G2.closeG = r := ⟨_, rfl⟩
     obtain ⟨rbd, hbd⟩ : ∃ r, subB G1.closeG G3.closeG = r := ⟨_, rfl⟩
     obtain ⟨rca, hca⟩ : ∃ r, subB G2.closeG G0.closeG = r := ⟨_, rfl⟩
     have HOs01 : Hid (∀ W, Below w5.heap.size w5 W → Calls Tryz.prog 13 #[.string ⟨#[42]⟩, .agg #[.slice (some ⟨p0, o0, none⟩) n0 cc0, .int .i64 0], .agg #[.slice (some ⟨p1, o1, none⟩) n1 cc1, .int .i64 0]] W fun e w' => ∃ a c k dn, e = .returned (.agg #[.slice a (n0 + n1 + 1) c, .int .i64 ((n0 : Int) + (n1 : Int))]) ∧ Mem W w' [ofZ a c k e0 e1 dn ⟨#[42]⟩]) := fun W hW => of_call cc0 cc1 _ hf0 hf1 hW
     have HOs23 : Hid (∀ W, Below w5.heap.size w5 W → Calls Tryz.prog 13 #[.string ⟨#[42]⟩, .agg #[.slice (some ⟨p2, o2, none⟩) n2 cc2, .int .i64 0], .agg #[.slice (some ⟨p3, o3, none⟩) n3 cc3, .int .i64 0]] W fun e w' => ∃ a c k dn, e = .returned (.agg #[.slice a (n2 + n3 + 1) c, .int .i64 ((n2 : Int) + (n3 : Int))]) ∧ Mem W w' [ofZ a c k e2 e3 dn ⟨#[42]⟩]) := fun W hW => of_call cc2 cc3 _ hf2 hf3 hW
     have HMS : Hid (∀ (W : World) (a : Option Addr) (c k : Nat) (dn : List NodeV) (a' : Option Addr) (c' k' : Nat) (dm : List NodeV), Below w5.heap.size w5 W → (ofZ a c k e0 e1 dn ⟨#[42]⟩).P W → (ofZ a' c' k' e2 e3 dm ⟨#[42]⟩).P W → Calls Tryz.prog 12 #[.agg #[.slice a (n0 + n1 + 1) c, .int .i64 ((n0 : Int) + (n1 : Int))], .agg #[.slice a' (n2 + n3 + 1) c', .int .i64 ((n2 : Int) + (n3 : Int))]] W fun e w' => e = .returned (.bool (rac && rbd)) ∧ Below W.heap.size W w') := fun W a c k dn a' c' k' dm hW r1 r2 => by
      have K := of_may (s := starB) arity_star (by decide) hf0 hf1 hf2 hf3 (by omega) (by omega) hW hx5 r1 r2
      rw [if_neg (show ¬ starB = arrowB by decide), hac, hbd] at K
      exact K
     have HOa01 : Hid (∀ W, Below w5.heap.size w5 W → Calls Tryz.prog 13 #[.string ⟨#[45, 62]⟩, .agg #[.slice (some ⟨p0, o0, none⟩) n0 cc0, .int .i64 0], .agg #[.slice (some ⟨p1, o1, none⟩) n1 cc1, .int .i64 0]] W fun e w' => ∃ a c k dn, e = .returned (.agg #[.slice a (n0 + n1 + 1) c, .int .i64 ((n0 : Int) + (n1 : Int))]) ∧ Mem W w' [ofZ a c k e0 e1 dn ⟨#[45, 62]⟩]) := fun W hW => of_call cc0 cc1 _ hf0 hf1 hW
     have HOa23 : Hid (∀ W, Below w5.heap.size w5 W → Calls Tryz.prog 13 #[.string ⟨#[45, 62]⟩, .agg #[.slice (some ⟨p2, o2, none⟩) n2 cc2, .int .i64 0], .agg #[.slice (some ⟨p3, o3, none⟩) n3 cc3, .int .i64 0]] W fun e w' => ∃ a c k dn, e = .returned (.agg #[.slice a (n2 + n3 + 1) c, .int .i64 ((n2 : Int) + (n3 : Int))]) ∧ Mem W w' [ofZ a c k e2 e3 dn ⟨#[45, 62]⟩]) := fun W hW => of_call cc2 cc3 _ hf2 hf3 hW
     have HMA : Hid (∀ (W : World) (a : Option Addr) (c k : Nat) (dn : List NodeV) (a' : Option Addr) (c' k' : Nat) (dm : List NodeV), Below w5.heap.size w5 W → (ofZ a c k e0 e1 dn ⟨#[45, 62]⟩).P W → (ofZ a' c' k' e2 e3 dm ⟨#[45, 62]⟩).P W → Calls Tryz.prog 12 #[.agg #[.slice a (n0 + n1 + 1) c, .int .i64 ((n0 : Int) + (n1 : Int))], .agg #[.slice a' (n2 + n3 + 1) c', .int .i64 ((n2 : Int) + (n3 : Int))]] W fun e w' => e = .returned (.bool (rca && rbd)) ∧ Below W.heap.size W w') := fun W a c k dn a' c' k' dm hW r1 r2 => by
      have K := of_may (s := arrowB) arity_arrow (by decide) hf0 hf1 hf2 hf3 (by omega) (by omega) hW hx5 r1 r2
      rw [if_pos rfl, hca, hbd] at K
      exact K
     have HM02 : Hid (∀ W, Below w5.heap.size w5 W → Calls Tryz.prog 12 #[.agg #[.slice (some ⟨p0, o0, none⟩) n0 cc0, .int .i64 0], .agg #[.slice (some ⟨p2, o2, none⟩) n2 cc2, .int .i64 0]] W fun e w' => e = .returned (.bool rac) ∧ Below W.heap.size W w') := fun W hW => by
      have K := may_call cc0 cc2 hf0 hf2 (by omega) (by omega) hW hx5
      rw [hac] at K
      exact K
     have HM13 : Hid (∀ W, Below w5.heap.size w5 W → Calls Tryz.prog 12 #[.agg #[.slice (some ⟨p1, o1, none⟩) n1 cc1, .int .i64 0], .agg #[.slice (some ⟨p3, o3, none⟩) n3 cc3, .int .i64 0]] W fun e w' => e = .returned (.bool rbd) ∧ Below W.heap.size W w') := fun W hW => by
      have K := may_call cc1 cc3 hf1 hf3 (by omega) (by omega) hW hx5
      rw [hbd] at K
      exact K
     have HM20 : Hid (∀ W, Below w5.heap.size w5 W → Calls Tryz.prog 12 #[.agg #[.slice (some ⟨p2, o2, none⟩) n2 cc2, .int .i64 0], .agg #[.slice (some ⟨p0, o0, none⟩) n0 cc0, .int .i64 0]] W fun e w' => e = .returned (.bool rca) ∧ Below W.heap.size W w') := fun W hW => by
      have K := may_call cc2 cc0 hf2 hf0 (by omega) (by omega) hW hx5
      rw [hca] at K
      exact K
     clear HC hx5 hwg E0 E1 E2 E3 N0 N1 N2 N3 hf0 hf1 hf2 hf3 L0 L1 L2 L3 W0 W1 W2 W3 hac hbd hca F0 F1 F2 F3 HC0 HC1 HC2 HC3 HG0 HG1 HG2 HG3 HX HWG HM10
     have HQ : Hid (Mem w5 w5 []) := Mem.nil w5
     go_upto_region 12 with fail
     have cS : Cond (fun w' => w'.cell? ⟨b3, 0, none⟩ = some (.slice (some ⟨p0, o0, none⟩) n0 cc0) ∧ w'.cell? ⟨b3, 1, none⟩ = some (.int .i64 0) ∧ w'.cell? ⟨b4, 0, none⟩ = some (.slice (some ⟨p1, o1, none⟩) n1 cc1) ∧ w'.cell? ⟨b4, 1, none⟩ = some (.int .i64 0) ∧ w'.cell? ⟨b5, 0, none⟩ = some (.slice (some ⟨p2, o2, none⟩) n2 cc2) ∧ w'.cell? ⟨b5, 1, none⟩ = some (.int .i64 0) ∧ w'.cell? ⟨b6, 0, none⟩ = some (.slice (some ⟨p3, o3, none⟩) n3 cc3) ∧ w'.cell? ⟨b6, 1, none⟩ = some (.int .i64 0)) := ⟨⟩
     refine cS.keep [] ?_ (fun hH0 => ?_)
     ·exact ⟨cell_below HQ.out.drew.below Q30.out, cell_below HQ.out.drew.below Q31.out, cell_below HQ.out.drew.below Q40.out, cell_below HQ.out.drew.below Q41.out, cell_below HQ.out.drew.below Q50.out, cell_below HQ.out.drew.below Q51.out, cell_below HQ.out.drew.below Q60.out, cell_below HQ.out.drew.below Q61.out⟩
     have H0 := Tre.hid HQ.out.drew
     generalize hq : World.drew _ = wq0 at H0 hH0 ⊢
     clear hq
     refine with_G (G0 := wpAnyL _ _ _ _ _ _) ?_
     intro G hG a0 hA
     have TAIL : Kept (∀ (a48 a52 : Option Addr) (c48 c52 : Nat) (v58 v59 v60 v61 : Value) (wq0 : World), Hid (Mem w5 wq0 []) → G 21 (bt 39 262143) ((((((((((((((((((a0.put (some 45) (.func (.func 13) #[] #[])).put (some 46) (.agg #[.slice (some ⟨p0, o0, none⟩) n0 cc0, .int .i64 0])).put (some 47) (.agg #[.slice (some ⟨p1, o1, none⟩) n1 cc1, .int .i64 0])).put (some 48) (.agg #[.slice a48 (n0 + n1 + 1) c48, .int .i64 ((n0 : Int) + (n1 : Int))])).put (some 49) (.func (.func 13) #[] #[])).put (some 50) (.agg #[.slice (some ⟨p2, o2, none⟩) n2 cc2, .int .i64 0])).put (some 51) (.agg #[.slice (some ⟨p3, o3, none⟩) n3 cc3, .int .i64 0])).put (some 52) (.agg #[.slice a52 (n2 + n3 + 1) c52, .int .i64 ((n2 : Int) + (n3 : Int))])).put (some 53) (.bool (rac && rbd))).put (some 54) (.agg #[.slice (some ⟨p0, o0, none⟩) n0 cc0, .int .i64 0])).put (some 55) (.agg #[.slice (some ⟨p2, o2, none⟩) n2 cc2, .int .i64 0])).put (some 56) (.bool rac)).put (some 57) (.bool rac)).put (some 58) (v58)).put (some 59) (v59)).put (some 60) (v60)).put (some 61) (v61)).put (some 62) (.bool true)) wq0) := ⟨by
      intro a48 a52 c48 c52 v58 v59 v60 v61 wq0 H0
      refine into_G hG ?_
      rw [hA.out]
      try simp only [Act.put, zqf, zqg, zqh]
      have hH0 := cS.is (w := wq0) (⟨cell_below H0.out.below Q30.out, cell_below H0.out.below Q31.out, cell_below H0.out.below Q40.out, cell_below H0.out.below Q41.out, cell_below H0.out.below Q50.out, cell_below H0.out.below Q51.out, cell_below H0.out.below Q60.out, cell_below H0.out.below Q61.out⟩)
      refine lPk 18 (some 63) (v := ?_) ?_ (keep_of hH0) ?_
      rotate_left
      ·intro w; simp only [zqa, zqb, zqc, zqd, zqe]; go_simp <;> with_reducible rfl
      try simp only [Act.put, zqf, zqg, zqh]
      refine lPk 19 (some 64) (v := ?_) ?_ (keep_of hH0) ?_
      rotate_left
      ·intro w; simp only [zqa, zqb, zqc, zqd, zqe]; go_simp <;> with_reducible rfl
      try simp only [Act.put, zqf, zqg, zqh]
      refine lPk 23 (some 68) (v := ?_) ?_ (keep_of hH0) ?_
      rotate_left
      ·intro w; simp only [zqa, zqb, zqc, zqd, zqe]; go_simp <;> with_reducible rfl
      try simp only [Act.put, zqf, zqg, zqh]
      refine lTk 20 (some 65) (v := ?_) ?_ hH0 ?_
      rotate_left
      ·intro w hSw; (try dsimp only at hSw); simp only [zqa, zqb, zqc, zqd, zqe]; go_simp <;> with_reducible rfl
      try simp only [Act.put, zqf, zqg, zqh]
      refine lTk 21 (some 66) (v := ?_) ?_ hH0 ?_
      rotate_left
      ·intro w hSw; (try dsimp only at hSw); simp only [zqa, zqb, zqc, zqd, zqe]; go_simp <;> with_reducible rfl
      try simp only [Act.put, zqf, zqg, zqh]
      refine lTk 24 (some 69) (v := ?_) ?_ hH0 ?_
      rotate_left
      ·intro w hSw; (try dsimp only at hSw); simp only [zqa, zqb, zqc, zqd, zqe]; go_simp <;> with_reducible rfl
      try simp only [Act.put, zqf, zqg, zqh]
      refine lTk 25 (some 70) (v := ?_) ?_ hH0 ?_
      rotate_left
      ·intro w hSw; (try dsimp only at hSw); simp only [zqa, zqb, zqc, zqd, zqe]; go_simp <;> with_reducible rfl
      try simp only [Act.put, zqf, zqg, zqh]
      refine lTk 28 (some 73) (v := ?_) ?_ hH0 ?_
      rotate_left
      ·intro w hSw; (try dsimp only at hSw); simp only [zqa, zqb, zqc, zqd, zqe]; go_simp <;> with_reducible rfl
      try simp only [Act.put, zqf, zqg, zqh]
      refine lTk 29 (some 74) (v := ?_) ?_ hH0 ?_
      rotate_left
      ·intro w hSw; (try dsimp only at hSw); simp only [zqa, zqb, zqc, zqd, zqe]; go_simp <;> with_reducible rfl
      try simp only [Act.put, zqf, zqg, zqh]
      refine lOne 22 (by kernel_rfl) (LStep.op (fun K hK => ?_))
      go_simp
      refine (HOa01.out _ H0.out.below).mono ?_
      rintro e wq1 ⟨a67, c67, k67, d67, rfl, mq⟩
      have H1 := Tre.hid (H0.out.call mq)
      clear mq
      (try dsimp only)
      refine hK.out _ _ ?_ (fun hH1 => ?_)
      ·exact ⟨cell_below H1.out.below Q30.out, cell_below H1.out.below Q31.out, cell_below H1.out.below Q40.out, cell_below H1.out.below Q41.out, cell_below H1.out.below Q50.out, cell_below H1.out.below Q51.out, cell_below H1.out.below Q60.out, cell_below H1.out.below Q61.out⟩
      clear hK K hH0
      try simp only [Act.put, zqf, zqg, zqh]
      refine lOne 26 (by kernel_rfl) (LStep.op (fun K hK => ?_))
      go_simp
      refine (HOa23.out _ H1.out.below).mono ?_
      rintro e wq2 ⟨a71, c71, k71, d71, rfl, mq⟩
      have H2 := Tre.hid (H1.out.call mq)
      clear mq
      (try dsimp only)
      refine hK.out _ _ ?_ (fun hH2 => ?_)
      ·exact ⟨cell_below H2.out.below Q30.out, cell_below H2.out.below Q31.out, cell_below H2.out.below Q40.out, cell_below H2.out.below Q41.out, cell_below H2.out.below Q50.out, cell_below H2.out.below Q51.out, cell_below H2.out.below Q60.out, cell_below H2.out.below Q61.out⟩
      clear hK K hH1
      try simp only [Act.put, zqf, zqg, zqh]
      refine lOne 27 (by kernel_rfl) (LStep.op (fun K hK => ?_))
      go_simp
      refine (HMA.out _ _ _ _ _ _ _ _ _ H2.out.below (H2.out.at_ 1 rfl) (H2.out.at_ 0 rfl)).mono ?_
      rintro e wq3 ⟨rfl, bq⟩
      have H3 := Tre.hid (H2.out.quiet bq)
      clear bq
      (try dsimp only)
      refine hK.out _ _ ?_ (fun hH3 => ?_)
      ·exact ⟨cell_below H3.out.below Q30.out, cell_below H3.out.below Q31.out, cell_below H3.out.below Q40.out, cell_below H3.out.below Q41.out, cell_below H3.out.below Q50.out, cell_below H3.out.below Q51.out, cell_below H3.out.below Q60.out, cell_below H3.out.below Q61.out⟩
      clear hK K hH2
      try simp only [Act.put, zqf, zqg, zqh]
      refine lOne 30 (by kernel_rfl) (LStep.op (fun K hK => ?_))
      go_simp
      refine (HM20.out _ H3.out.below).mono ?_
      rintro e wq4 ⟨rfl, bq⟩
      have H4 := Tre.hid (H3.out.quiet bq)
      clear bq
      (try dsimp only)
      refine hK.out _ _ ?_ (fun hH4 => ?_)
      ·exact ⟨cell_below H4.out.below Q30.out, cell_below H4.out.below Q31.out, cell_below H4.out.below Q40.out, cell_below H4.out.below Q41.out, cell_below H4.out.below Q50.out, cell_below H4.out.below Q51.out, cell_below H4.out.below Q60.out, cell_below H4.out.below Q61.out⟩
      clear hK K hH3
      try simp only [Act.put, zqf, zqg, zqh]
      refine lPk 31 (some 76) (v := ?_) ?_ (keep_of hH4) ?_
      rotate_left
      ·intro w; simp only [zqa, zqb, zqc, zqd, zqe]; go_simp <;> with_reducible rfl
      try simp only [Act.put, zqf, zqg, zqh]
      cases rca with
      | false =>
       refine lPureNo (i := 32) (some 77) (by rfl) (by kernel_rfl) (by kernel_rfl) (by kernel_rfl) (by kernel_rfl) (fun _ _ _ h => h) (by rfl) (keep_of hH4) ?_
       try simp only [Act.put, zqf, zqg, zqh]
       refine lPureNo (i := 33) (some 78) (by rfl) (by kernel_rfl) (by kernel_rfl) (by kernel_rfl) (by kernel_rfl) (fun _ _ _ h => h) (by rfl) (keep_of hH4) ?_
       try simp only [Act.put, zqf, zqg, zqh]
       refine lPureNo (i := 34) (some 79) (by rfl) (by kernel_rfl) (by kernel_rfl) (by kernel_rfl) (by kernel_rfl) (fun _ _ _ h => h) (by rfl) (keep_of hH4) ?_
       try simp only [Act.put, zqf, zqg, zqh]
       refine lPk 35 (some 80) (v := ?_) ?_ (keep_of hH4) ?_
       rotate_left
       ·intro w; simp only [zqa, zqb, zqc, zqd, zqe]; go_simp <;> with_reducible rfl
       try simp only [Act.put, zqf, zqg, zqh]
       refine lPk 36 (some 81) (v := ?_) ?_ (keep_of hH4) ?_
       rotate_left
       ·intro w; simp only [zqa, zqb, zqc, zqd, zqe]; go_simp <;> with_reducible rfl
       try simp only [Act.put, zqf, zqg, zqh]
       refine lPk 37 (some 82) (v := ?_) ?_ (keep_of hH4) ?_
       rotate_left
       ·intro w; simp only [zqa, zqb, zqc, zqd, zqe]; go_simp <;> with_reducible rfl
       try simp only [Act.put, zqf, zqg, zqh]
       refine lPk 38 (some 2) (v := ?_) ?_ (keep_of hH4) ?_
       rotate_left
       ·intro w; simp only [zqa, zqb, zqc, zqd, zqe]; go_simp <;> with_reducible rfl
       try simp only [Act.put, zqf, zqg, zqh]
       refine lDone (by kernel_rfl) ?_
       clear hH4
       have HE := H4
       clear H0 hA hG
       go_wp2_with fail
       go_ret
       exact ⟨ret_bool (by simp), below_below HBW.out HE.out.below⟩
      | true =>
       refine lTk 32 (some 77) (v := ?_) ?_ hH4 ?_
       rotate_left
       ·intro w hSw; (try dsimp only at hSw); simp only [zqa, zqb, zqc, zqd, zqe]; go_simp <;> with_reducible rfl
       try simp only [Act.put, zqf, zqg, zqh]
       refine lTk 33 (some 78) (v := ?_) ?_ hH4 ?_
       rotate_left
       ·intro w hSw; (try dsimp only at hSw); simp only [zqa, zqb, zqc, zqd, zqe]; go_simp <;> with_reducible rfl
       try simp only [Act.put, zqf, zqg, zqh]
       refine lOne 34 (by kernel_rfl) (LStep.op (fun K hK => ?_))
       go_simp
       refine (HM13.out _ H4.out.below).mono ?_
       rintro e wq5 ⟨rfl, bq⟩
       have H5 := Tre.hid (H4.out.quiet bq)
       clear bq
       (try dsimp only)
       refine hK.out _ _ ?_ (fun hH41 => ?_)
       ·exact ⟨cell_below H5.out.below Q30.out, cell_below H5.out.below Q31.out, cell_below H5.out.below Q40.out, cell_below H5.out.below Q41.out, cell_below H5.out.below Q50.out, cell_below H5.out.below Q51.out, cell_below H5.out.below Q60.out, cell_below H5.out.below Q61.out⟩
       clear hK K hH4
       try simp only [Act.put, zqf, zqg, zqh]
       refine lPk 35 (some 80) (v := ?_) ?_ (keep_of hH41) ?_
       rotate_left
       ·intro w; simp only [zqa, zqb, zqc, zqd, zqe]; go_simp <;> with_reducible rfl
       try simp only [Act.put, zqf, zqg, zqh]
       refine lPk 36 (some 81) (v := ?_) ?_ (keep_of hH41) ?_
       rotate_left
       ·intro w; simp only [zqa, zqb, zqc, zqd, zqe]; go_simp <;> with_reducible rfl
       try simp only [Act.put, zqf, zqg, zqh]
       refine lPk 37 (some 82) (v := ?_) ?_ (keep_of hH41) ?_
       rotate_left
       ·intro w; simp only [zqa, zqb, zqc, zqd, zqe]; go_simp <;> with_reducible rfl
       try simp only [Act.put, zqf, zqg, zqh]
       refine lPk 38 (some 2) (v := ?_) ?_ (keep_of hH41) ?_
       rotate_left
       ·intro w; simp only [zqa, zqb, zqc, zqd, zqe]; go_simp <;> with_reducible rfl
       try simp only [Act.put, zqf, zqg, zqh]
       refine lDone (by kernel_rfl) ?_
       clear hH41
       have HE := H5
       clear H0 hA hG
       go_wp2_with fail
       go_ret
       exact ⟨ret_bool (by simp), below_below HBW.out HE.out.below⟩
     ⟩
     refine into_G hG ?_
     rw [hA.out]
     try simp only [Act.put, zqf, zqg, zqh]
     refine lPk 0 (some 45) (v := ?_) ?_ (keep_of hH0) ?_
     rotate_left
     ·intro w; simp only [zqa, zqc, zqd, zqe]; go_simp <;> with_reducible rfl
     try simp only [Act.put, zqf, zqg, zqh]
     refine lPk 4 (some 49) (v := ?_) ?_ (keep_of hH0) ?_
     rotate_left
     ·intro w; simp only [zqa, zqb, zqc, zqd, zqe]; go_simp <;> with_reducible rfl
     try simp only [Act.put, zqf, zqg, zqh]
     refine lTk 1 (some 46) (v := ?_) ?_ hH0 ?_
     rotate_left
     ·intro w hSw; (try dsimp only at hSw); simp only [zqa, zqb, zqc, zqd, zqe]; go_simp <;> with_reducible rfl
     try simp only [Act.put, zqf, zqg, zqh]
     refine lTk 2 (some 47) (v := ?_) ?_ hH0 ?_
     rotate_left
     ·intro w hSw; (try dsimp only at hSw); simp only [zqa, zqb, zqc, zqd, zqe]; go_simp <;> with_reducible rfl
     try simp only [Act.put, zqf, zqg, zqh]
     refine lTk 5 (some 50) (v := ?_) ?_ hH0 ?_
     rotate_left
     ·intro w hSw; (try dsimp only at hSw); simp only [zqa, zqb, zqc, zqd, zqe]; go_simp <;> with_reducible rfl
     try simp only [Act.put, zqf, zqg, zqh]
     refine lTk 6 (some 51) (v := ?_) ?_ hH0 ?_
     rotate_left
     ·intro w hSw; (try dsimp only at hSw); simp only [zqa, zqb, zqc, zqd, zqe]; go_simp <;> with_reducible rfl
     try simp only [Act.put, zqf, zqg, zqh]
     refine lTk 9 (some 54) (v := ?_) ?_ hH0 ?_
     rotate_left
     ·intro w hSw; (try dsimp only at hSw); simp only [zqa, zqb, zqc, zqd, zqe]; go_simp <;> with_reducible rfl
     try simp only [Act.put, zqf, zqg, zqh]
     refine lTk 10 (some 55) (v := ?_) ?_ hH0 ?_
     rotate_left
     ·intro w hSw; (try dsimp only at hSw); simp only [zqa, zqb, zqc, zqd, zqe]; go_simp <;> with_reducible rfl
     try simp only [Act.put, zqf, zqg, zqh]
     refine lOne 3 (by kernel_rfl) (LStep.op (fun K hK => ?_))
     go_simp
     refine (HOs01.out _ H0.out.below).mono ?_
     rintro e wq1 ⟨a48, c48, k48, d48, rfl, mq⟩
     have H1 := Tre.hid (H0.out.call mq)
     clear mq
     (try dsimp only)
     refine hK.out _ _ ?_ (fun hH1 => ?_)
     ·exact ⟨cell_below H1.out.below Q30.out, cell_below H1.out.below Q31.out, cell_below H1.out.below Q40.out, cell_below H1.out.below Q41.out, cell_below H1.out.below Q50.out, cell_below H1.out.below Q51.out, cell_below H1.out.below Q60.out, cell_below H1.out.below Q61.out⟩
     clear hK K hH0
     try simp only [Act.put, zqf, zqg, zqh]
     refine lOne 7 (by kernel_rfl) (LStep.op (fun K hK => ?_))
     go_simp
     refine (HOs23.out _ H1.out.below).mono ?_
     rintro e wq2 ⟨a52, c52, k52, d52, rfl, mq⟩
     have H2 := Tre.hid (H1.out.call mq)
     clear mq
     (try dsimp only)
     refine hK.out _ _ ?_ (fun hH2 => ?_)
     ·exact ⟨cell_below H2.out.below Q30.out, cell_below H2.out.below Q31.out, cell_below H2.out.below Q40.out, cell_below H2.out.below Q41.out, cell_below H2.out.below Q50.out, cell_below H2.out.below Q51.out, cell_below H2.out.below Q60.out, cell_below H2.out.below Q61.out⟩
     clear hK K hH1
     try simp only [Act.put, zqf, zqg, zqh]
     refine lOne 8 (by kernel_rfl) (LStep.op (fun K hK => ?_))
     go_simp
     refine (HMS.out _ _ _ _ _ _ _ _ _ H2.out.below (H2.out.at_ 1 rfl) (H2.out.at_ 0 rfl)).mono ?_
     rintro e wq3 ⟨rfl, bq⟩
     have H3 := Tre.hid (H2.out.quiet bq)
     clear bq
     (try dsimp only)
     refine hK.out _ _ ?_ (fun hH3 => ?_)
     ·exact ⟨cell_below H3.out.below Q30.out, cell_below H3.out.below Q31.out, cell_below H3.out.below Q40.out, cell_below H3.out.below Q41.out, cell_below H3.out.below Q50.out, cell_below H3.out.below Q51.out, cell_below H3.out.below Q60.out, cell_below H3.out.below Q61.out⟩
     clear hK K hH2
     try simp only [Act.put, zqf, zqg, zqh]
     refine lOne 11 (by kernel_rfl) (LStep.op (fun K hK => ?_))
     go_simp
     refine (HM02.out _ H3.out.below).mono ?_
     rintro e wq4 ⟨rfl, bq⟩
     have H4 := Tre.hid (H3.out.quiet bq)
     clear bq
     (try dsimp only)
     refine hK.out _ _ ?_ (fun hH4 => ?_)
     ·exact ⟨cell_below H4.out.below Q30.out, cell_below H4.out.below Q31.out, cell_below H4.out.below Q40.out, cell_below H4.out.below Q41.out, cell_below H4.out.below Q50.out, cell_below H4.out.below Q51.out, cell_below H4.out.below Q60.out, cell_below H4.out.below Q61.out⟩
     clear hK K hH3
     try simp only [Act.put, zqf, zqg, zqh]
     refine lPk 12 (some 57) (v := ?_) ?_ (keep_of hH4) ?_
     rotate_left
     ·intro w; simp only [zqa, zqb, zqc, zqd, zqe]; go_simp <;> with_reducible rfl
     try simp only [Act.put, zqf, zqg, zqh]
     cases rac with
     | false =>
      refine lPureNo (i := 13) (some 58) (by rfl) (by kernel_rfl) (by kernel_rfl) (by kernel_rfl) (by kernel_rfl) (fun _ _ _ h => h) (by rfl) (keep_of hH4) ?_
      try simp only [Act.put, zqf, zqg, zqh]
      refine lPureNo (i := 14) (some 59) (by rfl) (by kernel_rfl) (by kernel_rfl) (by kernel_rfl) (by kernel_rfl) (fun _ _ _ h => h) (by rfl) (keep_of hH4) ?_
      try simp only [Act.put, zqf, zqg, zqh]
      refine lPureNo (i := 15) (some 60) (by rfl) (by kernel_rfl) (by kernel_rfl) (by kernel_rfl) (by kernel_rfl) (fun _ _ _ h => h) (by rfl) (keep_of hH4) ?_
      try simp only [Act.put, zqf, zqg, zqh]
      refine lPk 16 (some 61) (v := ?_) ?_ (keep_of hH4) ?_
      rotate_left
      ·intro w; simp only [zqa, zqb, zqc, zqd, zqe]; go_simp <;> with_reducible rfl
      try simp only [Act.put, zqf, zqg, zqh]
      refine lPk 17 (some 62) (v := ?_) ?_ (keep_of hH4) ?_
      rotate_left
      ·intro w; simp only [zqa, zqb, zqc, zqd, zqe]; go_simp <;> with_reducible rfl
      try simp only [Act.put, zqf, zqg, zqh]
      exact outof_G hG (TAIL.out a48 a52 c48 c52 undef undef undef (.bool false) _ H4.out.none_) (by kernel_rfl) (by rw [hA.out]; try kernel_rfl)
     | true =>
      refine lTk 13 (some 58) (v := ?_) ?_ hH4 ?_
      rotate_left
      ·intro w hSw; (try dsimp only at hSw); simp only [zqa, zqb, zqc, zqd, zqe]; go_simp <;> with_reducible rfl
      try simp only [Act.put, zqf, zqg, zqh]
      refine lTk 14 (some 59) (v := ?_) ?_ hH4 ?_
      rotate_left
      ·intro w hSw; (try dsimp only at hSw); simp only [zqa, zqb, zqc, zqd, zqe]; go_simp <;> with_reducible rfl
      try simp only [Act.put, zqf, zqg, zqh]
      refine lOne 15 (by kernel_rfl) (LStep.op (fun K hK => ?_))
      go_simp
      refine (HM13.out _ H4.out.below).mono ?_
      rintro e wq5 ⟨rfl, bq⟩
      have H5 := Tre.hid (H4.out.quiet bq)
      clear bq
      (try dsimp only)
      refine hK.out _ _ ?_ (fun hH21 => ?_)
      ·exact ⟨cell_below H5.out.below Q30.out, cell_below H5.out.below Q31.out, cell_below H5.out.below Q40.out, cell_below H5.out.below Q41.out, cell_below H5.out.below Q50.out, cell_below H5.out.below Q51.out, cell_below H5.out.below Q60.out, cell_below H5.out.below Q61.out⟩
      clear hK K hH4
      try simp only [Act.put, zqf, zqg, zqh]
      refine lPk 16 (some 61) (v := ?_) ?_ (keep_of hH21) ?_
      rotate_left
      ·intro w; simp only [zqa, zqb, zqc, zqd, zqe]; go_simp <;> with_reducible rfl
      try simp only [Act.put, zqf, zqg, zqh]
      refine lPk 17 (some 62) (v := ?_) ?_ (keep_of hH21) ?_
      rotate_left
      ·intro w; simp only [zqa, zqb, zqc, zqd, zqe]; go_simp <;> with_reducible rfl
      try simp only [Act.put, zqf, zqg, zqh]
      exact outof_G hG (TAIL.out a48 a52 c48 c52 (.agg #[.slice (some ⟨p1, o1, none⟩) n1 cc1, .int .i64 0]) (.agg #[.slice (some ⟨p3, o3, none⟩) n3 cc3, .int .i64 0]) (.bool rbd) (.bool rbd) _ H5.out.none_) (by kernel_rfl) (by rw [hA.out]; try kernel_rfl)
    ⟩
    have Z1 : Kept (∀ (x0 : Option Addr) (cc0 : Nat) (d0 : List NodeV) (x1 : Option Addr) (cc1 : Nat) (d1 : List NodeV) (x2 : Option Addr) (cc2 : Nat) (d2 : List NodeV) (x3 : Option Addr) (cc3 : Nat) (d3 : List NodeV) (wq : World), Hid (Mem w wq [nodesR (.slice x0 d0.length cc0) d0, kidsR d0, factR (d0.map NodeV.n = G0.closeG.ns), nodesR (.slice x1 d1.length cc1) d1, kidsR d1, factR (d1.map NodeV.n = G1.closeG.ns), nodesR (.slice x2 d2.length cc2) d2, kidsR d2, factR (d2.map NodeV.n = G2.closeG.ns), nodesR (.slice x3 d3.length cc3) d3, kidsR d3, factR (d3.map NodeV.n = G3.closeG.ns), cellsR b3 24 #[.slice x0 d0.length cc0, .int .i64 0], cellsR b4 24 #[.slice x1 d1.length cc1, .int .i64 0], cellsR b5 24 #[.slice x2 d2.length cc2, .int .i64 0], cellsR b6 24 #[.slice q3 G3.ns.length c3, .int .i64 G3.root]]) → G 1 (bt 12 2047) ((((a0.put (some 38) (.agg #[.slice x0 d0.length cc0, .int .i64 0])).put (some 40) (.agg #[.slice x1 d1.length cc1, .int .i64 0])).put (some 42) (.agg #[.slice x2 d2.length cc2, .int .i64 0])).put (some 44) (.agg #[.slice x3 d3.length cc3, .int .i64 0])) wq) := ⟨by
     intro x0 cc0 d0 x1 cc1 d1 x2 cc2 d2 x3 cc3 d3 wq HC
     refine into_G hG ?_
     rw [hA.out]
     try simp only [Act.put, zqf, zqg, zqh]
     refine lOne 11 (by kernel_rfl) ?_
     ·
      refine (LFall.op (by kernel_rfl) (fun K hK => ?_))
      have z0 := HC.out.free 15 rfl 0
      have z1 := HC.out.free 15 rfl 1
      obtain ⟨y0, y1⟩ := HC.out.two 15 rfl
      have HN := Tre.hid ((HC.out.setCell 15 rfl 0 (.slice x3 d3.length cc3)).setCell 15 rfl 1 (.int .i64 0))
      go_simp
      clear z0 z1 y0 y1
      generalize hw : World.setCell _ ⟨b6, 1, none⟩ _ = wr at HN ⊢
      clear hw
      refine hK.out _ _ ?_
      exact outof_G hG (Z0.out x0 cc0 d0 x1 cc1 d1 x2 cc2 d2 x3 cc3 d3 wr HN) (by kernel_rfl) (by rw [hA.out]; try kernel_rfl)
    ⟩
    have Z2 : Kept (∀ (x0 : Option Addr) (cc0 : Nat) (d0 : List NodeV) (x1 : Option Addr) (cc1 : Nat) (d1 : List NodeV) (x2 : Option Addr) (cc2 : Nat) (d2 : List NodeV) (x3 : Option Addr) (cc3 : Nat) (d3 : List NodeV) (wq : World), Hid (Mem w wq [nodesR (.slice x0 d0.length cc0) d0, kidsR d0, factR (d0.map NodeV.n = G0.closeG.ns), nodesR (.slice x1 d1.length cc1) d1, kidsR d1, factR (d1.map NodeV.n = G1.closeG.ns), nodesR (.slice x2 d2.length cc2) d2, kidsR d2, factR (d2.map NodeV.n = G2.closeG.ns), nodesR (.slice x3 d3.length cc3) d3, kidsR d3, factR (d3.map NodeV.n = G3.closeG.ns), cellsR b3 24 #[.slice x0 d0.length cc0, .int .i64 0], cellsR b4 24 #[.slice x1 d1.length cc1, .int .i64 0], cellsR b5 24 #[.slice q2 G2.ns.length c2, .int .i64 G2.root], cellsR b6 24 #[.slice q3 G3.ns.length c3, .int .i64 G3.root]]) → G 2 (bt 12 1023) ((((a0.put (some 38) (.agg #[.slice x0 d0.length cc0, .int .i64 0])).put (some 40) (.agg #[.slice x1 d1.length cc1, .int .i64 0])).put (some 42) (.agg #[.slice x2 d2.length cc2, .int .i64 0])).put (some 44) (.agg #[.slice x3 d3.length cc3, .int .i64 0])) wq) := ⟨by
     intro x0 cc0 d0 x1 cc1 d1 x2 cc2 d2 x3 cc3 d3 wq HC
     refine into_G hG ?_
     rw [hA.out]
     try simp only [Act.put, zqf, zqg, zqh]
     refine lOne 10 (by kernel_rfl) ?_
     ·
      refine (LFall.op (by kernel_rfl) (fun K hK => ?_))
      have z0 := HC.out.free 14 rfl 0
      have z1 := HC.out.free 14 rfl 1
      obtain ⟨y0, y1⟩ := HC.out.two 14 rfl
      have HN := Tre.hid ((HC.out.setCell 14 rfl 0 (.slice x2 d2.length cc2)).setCell 14 rfl 1 (.int .i64 0))
      go_simp
      clear z0 z1 y0 y1
      generalize hw : World.setCell _ ⟨b5, 1, none⟩ _ = wr at HN ⊢
      clear hw
      refine hK.out _ _ ?_
      exact outof_G hG (Z1.out x0 cc0 d0 x1 cc1 d1 x2 cc2 d2 x3 cc3 d3 wr HN) (by kernel_rfl) (by rw [hA.out]; try kernel_rfl)
    ⟩
    have Z3 : Kept (∀ (x0 : Option Addr) (cc0 : Nat) (d0 : List NodeV) (x1 : Option Addr) (cc1 : Nat) (d1 : List NodeV) (x2 : Option Addr) (cc2 : Nat) (d2 : List NodeV) (x3 : Option Addr) (cc3 : Nat) (d3 : List NodeV) (wq : World), Hid (Mem w wq [nodesR (.slice x0 d0.length cc0) d0, kidsR d0, factR (d0.map NodeV.n = G0.closeG.ns), nodesR (.slice x1 d1.length cc1) d1, kidsR d1, factR (d1.map NodeV.n = G1.closeG.ns), nodesR (.slice x2 d2.length cc2) d2, kidsR d2, factR (d2.map NodeV.n = G2.closeG.ns), nodesR (.slice x3 d3.length cc3) d3, kidsR d3, factR (d3.map NodeV.n = G3.closeG.ns), cellsR b3 24 #[.slice x0 d0.length cc0, .int .i64 0], cellsR b4 24 #[.slice q1 G1.ns.length c1, .int .i64 G1.root], cellsR b5 24 #[.slice q2 G2.ns.length c2, .int .i64 G2.root], cellsR b6 24 #[.slice q3 G3.ns.length c3, .int .i64 G3.root]]) → G 3 (bt 12 511) ((((a0.put (some 38) (.agg #[.slice x0 d0.length cc0, .int .i64 0])).put (some 40) (.agg #[.slice x1 d1.length cc1, .int .i64 0])).put (some 42) (.agg #[.slice x2 d2.length cc2, .int .i64 0])).put (some 44) (.agg #[.slice x3 d3.length cc3, .int .i64 0])) wq) := ⟨by
     intro x0 cc0 d0 x1 cc1 d1 x2 cc2 d2 x3 cc3 d3 wq HC
     refine into_G hG ?_
     rw [hA.out]
     try simp only [Act.put, zqf, zqg, zqh]
     refine lOne 9 (by kernel_rfl) ?_
     ·
      refine (LFall.op (by kernel_rfl) (fun K hK => ?_))
      have z0 := HC.out.free 13 rfl 0
      have z1 := HC.out.free 13 rfl 1
      obtain ⟨y0, y1⟩ := HC.out.two 13 rfl
      have HN := Tre.hid ((HC.out.setCell 13 rfl 0 (.slice x1 d1.length cc1)).setCell 13 rfl 1 (.int .i64 0))
      go_simp
      clear z0 z1 y0 y1
      generalize hw : World.setCell _ ⟨b4, 1, none⟩ _ = wr at HN ⊢
      clear hw
      refine hK.out _ _ ?_
      exact outof_G hG (Z2.out x0 cc0 d0 x1 cc1 d1 x2 cc2 d2 x3 cc3 d3 wr HN) (by kernel_rfl) (by rw [hA.out]; try kernel_rfl)
    ⟩
    have Z4 : Kept (∀ (x0 : Option Addr) (cc0 : Nat) (d0 : List NodeV) (x1 : Option Addr) (cc1 : Nat) (d1 : List NodeV) (x2 : Option Addr) (cc2 : Nat) (d2 : List NodeV) (x3 : Option Addr) (cc3 : Nat) (d3 : List NodeV) (wq : World), Hid (Mem w wq [nodesR (.slice x0 d0.length cc0) d0, kidsR d0, factR (d0.map NodeV.n = G0.closeG.ns), nodesR (.slice x1 d1.length cc1) d1, kidsR d1, factR (d1.map NodeV.n = G1.closeG.ns), nodesR (.slice x2 d2.length cc2) d2, kidsR d2, factR (d2.map NodeV.n = G2.closeG.ns), nodesR (.slice x3 d3.length cc3) d3, kidsR d3, factR (d3.map NodeV.n = G3.closeG.ns), cellsR b3 24 #[.slice q0 G0.ns.length c0, .int .i64 G0.root], cellsR b4 24 #[.slice q1 G1.ns.length c1, .int .i64 G1.root], cellsR b5 24 #[.slice q2 G2.ns.length c2, .int .i64 G2.root], cellsR b6 24 #[.slice q3 G3.ns.length c3, .int .i64 G3.root]]) → G 4 (bt 12 255) ((((a0.put (some 38) (.agg #[.slice x0 d0.length cc0, .int .i64 0])).put (some 40) (.agg #[.slice x1 d1.length cc1, .int .i64 0])).put (some 42) (.agg #[.slice x2 d2.length cc2, .int .i64 0])).put (some 44) (.agg #[.slice x3 d3.length cc3, .int .i64 0])) wq) := ⟨by
     intro x0 cc0 d0 x1 cc1 d1 x2 cc2 d2 x3 cc3 d3 wq HC
     refine into_G hG ?_
     rw [hA.out]
     try simp only [Act.put, zqf, zqg, zqh]
     have hH := cS.is (w := wq) (⟨HC.out.cell 12 rfl 0 rfl, HC.out.cell 12 rfl 1 rfl, HC.out.cell 13 rfl 0 rfl, HC.out.cell 13 rfl 1 rfl, HC.out.cell 14 rfl 0 rfl, HC.out.cell 14 rfl 1 rfl, HC.out.cell 15 rfl 0 rfl, HC.out.cell 15 rfl 1 rfl⟩)
     refine lOne 8 (by kernel_rfl) ?_
     ·
      refine (LFall.op (by kernel_rfl) (fun K hK => ?_))
      have z0 := HC.out.free 12 rfl 0
      have z1 := HC.out.free 12 rfl 1
      obtain ⟨y0, y1⟩ := HC.out.two 12 rfl
      have HN := Tre.hid ((HC.out.setCell 12 rfl 0 (.slice x0 d0.length cc0)).setCell 12 rfl 1 (.int .i64 0))
      go_simp
      clear z0 z1 y0 y1
      generalize hw : World.setCell _ ⟨b3, 1, none⟩ _ = wr at HN ⊢
      clear hw
      refine hK.out _ _ ?_
      exact outof_G hG (Z3.out x0 cc0 d0 x1 cc1 d1 x2 cc2 d2 x3 cc3 d3 wr HN) (by kernel_rfl) (by rw [hA.out]; try kernel_rfl)
    ⟩
    have Z5 : Kept (∀ (x0 : Option Addr) (cc0 : Nat) (d0 : List NodeV) (x1 : Option Addr) (cc1 : Nat) (d1 : List NodeV) (x2 : Option Addr) (cc2 : Nat) (d2 : List NodeV) (wq : World), Hid (Mem w wq [nodesR (.slice x0 d0.length cc0) d0, kidsR d0, factR (d0.map NodeV.n = G0.closeG.ns), nodesR (.slice x1 d1.length cc1) d1, kidsR d1, factR (d1.map NodeV.n = G1.closeG.ns), nodesR (.slice x2 d2.length cc2) d2, kidsR d2, factR (d2.map NodeV.n = G2.closeG.ns), cellsR b3 24 #[.slice q0 G0.ns.length c0, .int .i64 G0.root], cellsR b4 24 #[.slice q1 G1.ns.length c1, .int .i64 G1.root], cellsR b5 24 #[.slice q2 G2.ns.length c2, .int .i64 G2.root], cellsR b6 24 #[.slice q3 G3.ns.length c3, .int .i64 G3.root]]) → G 5 (bt 12 127) (((a0.put (some 38) (.agg #[.slice x0 d0.length cc0, .int .i64 0])).put (some 40) (.agg #[.slice x1 d1.length cc1, .int .i64 0])).put (some 42) (.agg #[.slice x2 d2.length cc2, .int .i64 0])) wq) := ⟨by
     intro x0 cc0 d0 x1 cc1 d1 x2 cc2 d2 wq HC
     refine into_G hG ?_
     rw [hA.out]
     try simp only [Act.put, zqf, zqg, zqh]
     have hH := cS.is (w := wq) (⟨HC.out.cell 9 rfl 0 rfl, HC.out.cell 9 rfl 1 rfl, HC.out.cell 10 rfl 0 rfl, HC.out.cell 10 rfl 1 rfl, HC.out.cell 11 rfl 0 rfl, HC.out.cell 11 rfl 1 rfl, HC.out.cell 12 rfl 0 rfl, HC.out.cell 12 rfl 1 rfl⟩)
     refine lOne 7 (by kernel_rfl) ?_
     ·
      refine (LStep.op (fun K hK => ?_))
      go_simp
      refine (HC3.out _ HC.out.below).mono ?_
      rintro e wr ⟨v3, d3, rfl, hd, mq⟩
      have HN1 := HC.out.call mq
      obtain ⟨x3, cc3, rfl, _⟩ := HN1.val 0 rfl
      have HN := Tre.hid (HN1.addFact hd)
      clear mq HN1 hd
      (try dsimp only)
      have HC := Tre.hid ((((((((((((HN.out.front 0 rfl).front 2 rfl).front 2 rfl).front 11 rfl).front 11 rfl).front 11 rfl).front 11 rfl).front 11 rfl).front 11 rfl).front 11 rfl).front 11 rfl).front 11 rfl)
      clear HN
      refine hK.out _ _ ?_ (fun hH2 => ?_)
      ·exact ⟨HC.out.cell 12 rfl 0 rfl, HC.out.cell 12 rfl 1 rfl, HC.out.cell 13 rfl 0 rfl, HC.out.cell 13 rfl 1 rfl, HC.out.cell 14 rfl 0 rfl, HC.out.cell 14 rfl 1 rfl, HC.out.cell 15 rfl 0 rfl, HC.out.cell 15 rfl 1 rfl⟩
      exact outof_G hG (Z4.out x0 cc0 d0 x1 cc1 d1 x2 cc2 d2 x3 cc3 d3 wr HC) (by kernel_rfl) (by rw [hA.out]; try kernel_rfl)
    ⟩
    have Z6 : Kept (∀ (x0 : Option Addr) (cc0 : Nat) (d0 : List NodeV) (x1 : Option Addr) (cc1 : Nat) (d1 : List NodeV) (wq : World), Hid (Mem w wq [nodesR (.slice x0 d0.length cc0) d0, kidsR d0, factR (d0.map NodeV.n = G0.closeG.ns), nodesR (.slice x1 d1.length cc1) d1, kidsR d1, factR (d1.map NodeV.n = G1.closeG.ns), cellsR b3 24 #[.slice q0 G0.ns.length c0, .int .i64 G0.root], cellsR b4 24 #[.slice q1 G1.ns.length c1, .int .i64 G1.root], cellsR b5 24 #[.slice q2 G2.ns.length c2, .int .i64 G2.root], cellsR b6 24 #[.slice q3 G3.ns.length c3, .int .i64 G3.root]]) → G 6 (bt 12 95) ((a0.put (some 38) (.agg #[.slice x0 d0.length cc0, .int .i64 0])).put (some 40) (.agg #[.slice x1 d1.length cc1, .int .i64 0])) wq) := ⟨by
     intro x0 cc0 d0 x1 cc1 d1 wq HC
     refine into_G hG ?_
     rw [hA.out]
     try simp only [Act.put, zqf, zqg, zqh]
     have hH := cS.is (w := wq) (⟨HC.out.cell 6 rfl 0 rfl, HC.out.cell 6 rfl 1 rfl, HC.out.cell 7 rfl 0 rfl, HC.out.cell 7 rfl 1 rfl, HC.out.cell 8 rfl 0 rfl, HC.out.cell 8 rfl 1 rfl, HC.out.cell 9 rfl 0 rfl, HC.out.cell 9 rfl 1 rfl⟩)
     refine lOne 5 (by kernel_rfl) ?_
     ·
      refine (LStep.op (fun K hK => ?_))
      go_simp
      refine (HC2.out _ HC.out.below).mono ?_
      rintro e wr ⟨v2, d2, rfl, hd, mq⟩
      have HN1 := HC.out.call mq
      obtain ⟨x2, cc2, rfl, _⟩ := HN1.val 0 rfl
      have HN := Tre.hid (HN1.addFact hd)
      clear mq HN1 hd
      (try dsimp only)
      have HC := Tre.hid (((((((((HN.out.front 0 rfl).front 2 rfl).front 2 rfl).front 8 rfl).front 8 rfl).front 8 rfl).front 8 rfl).front 8 rfl).front 8 rfl)
      clear HN
      refine hK.out _ _ ?_ (fun hH2 => ?_)
      ·exact ⟨HC.out.cell 9 rfl 0 rfl, HC.out.cell 9 rfl 1 rfl, HC.out.cell 10 rfl 0 rfl, HC.out.cell 10 rfl 1 rfl, HC.out.cell 11 rfl 0 rfl, HC.out.cell 11 rfl 1 rfl, HC.out.cell 12 rfl 0 rfl, HC.out.cell 12 rfl 1 rfl⟩
      exact outof_G hG (Z5.out x0 cc0 d0 x1 cc1 d1 x2 cc2 d2 wr HC) (by kernel_rfl) (by rw [hA.out]; try kernel_rfl)
    ⟩
    have Z7 : Kept (∀ (x0 : Option Addr) (cc0 : Nat) (d0 : List NodeV) (wq : World), Hid (Mem w wq [nodesR (.slice x0 d0.length cc0) d0, kidsR d0, factR (d0.map NodeV.n = G0.closeG.ns), cellsR b3 24 #[.slice q0 G0.ns.length c0, .int .i64 G0.root], cellsR b4 24 #[.slice q1 G1.ns.length c1, .int .i64 G1.root], cellsR b5 24 #[.slice q2 G2.ns.length c2, .int .i64 G2.root], cellsR b6 24 #[.slice q3 G3.ns.length c3, .int .i64 G3.root]]) → G 7 (bt 12 87) (a0.put (some 38) (.agg #[.slice x0 d0.length cc0, .int .i64 0])) wq) := ⟨by
     intro x0 cc0 d0 wq HC
     refine into_G hG ?_
     rw [hA.out]
     try simp only [Act.put, zqf, zqg, zqh]
     have hH := cS.is (w := wq) (⟨HC.out.cell 3 rfl 0 rfl, HC.out.cell 3 rfl 1 rfl, HC.out.cell 4 rfl 0 rfl, HC.out.cell 4 rfl 1 rfl, HC.out.cell 5 rfl 0 rfl, HC.out.cell 5 rfl 1 rfl, HC.out.cell 6 rfl 0 rfl, HC.out.cell 6 rfl 1 rfl⟩)
     refine lOne 3 (by kernel_rfl) ?_
     ·
      refine (LStep.op (fun K hK => ?_))
      go_simp
      refine (HC1.out _ HC.out.below).mono ?_
      rintro e wr ⟨v1, d1, rfl, hd, mq⟩
      have HN1 := HC.out.call mq
      obtain ⟨x1, cc1, rfl, _⟩ := HN1.val 0 rfl
      have HN := Tre.hid (HN1.addFact hd)
      clear mq HN1 hd
      (try dsimp only)
      have HC := Tre.hid ((((((HN.out.front 0 rfl).front 2 rfl).front 2 rfl).front 5 rfl).front 5 rfl).front 5 rfl)
      clear HN
      refine hK.out _ _ ?_ (fun hH2 => ?_)
      ·exact ⟨HC.out.cell 6 rfl 0 rfl, HC.out.cell 6 rfl 1 rfl, HC.out.cell 7 rfl 0 rfl, HC.out.cell 7 rfl 1 rfl, HC.out.cell 8 rfl 0 rfl, HC.out.cell 8 rfl 1 rfl, HC.out.cell 9 rfl 0 rfl, HC.out.cell 9 rfl 1 rfl⟩
      exact outof_G hG (Z6.out x0 cc0 d0 x1 cc1 d1 wr HC) (by kernel_rfl) (by rw [hA.out]; try kernel_rfl)
    ⟩
    have Z8 : Kept (∀ (wq : World), Hid (Mem w wq [cellsR b3 24 #[.slice q0 G0.ns.length c0, .int .i64 G0.root], cellsR b4 24 #[.slice q1 G1.ns.length c1, .int .i64 G1.root], cellsR b5 24 #[.slice q2 G2.ns.length c2, .int .i64 G2.root], cellsR b6 24 #[.slice q3 G3.ns.length c3, .int .i64 G3.root]]) → G 8 (bt 12 85) (a0) wq) := ⟨by
     intro  wq HC
     refine into_G hG ?_
     rw [hA.out]
     try simp only [Act.put, zqf, zqg, zqh]
     have hH := cS.is (w := wq) (⟨HC.out.cell 0 rfl 0 rfl, HC.out.cell 0 rfl 1 rfl, HC.out.cell 1 rfl 0 rfl, HC.out.cell 1 rfl 1 rfl, HC.out.cell 2 rfl 0 rfl, HC.out.cell 2 rfl 1 rfl, HC.out.cell 3 rfl 0 rfl, HC.out.cell 3 rfl 1 rfl⟩)
     refine lOne 1 (by kernel_rfl) ?_
     ·
      refine (LStep.op (fun K hK => ?_))
      go_simp
      refine (HC0.out _ HC.out.below).mono ?_
      rintro e wr ⟨v0, d0, rfl, hd, mq⟩
      have HN1 := HC.out.call mq
      obtain ⟨x0, cc0, rfl, _⟩ := HN1.val 0 rfl
      have HN := Tre.hid (HN1.addFact hd)
      clear mq HN1 hd
      (try dsimp only)
      have HC := Tre.hid (((HN.out.front 0 rfl).front 2 rfl).front 2 rfl)
      clear HN
      refine hK.out _ _ ?_ (fun hH2 => ?_)
      ·exact ⟨HC.out.cell 3 rfl 0 rfl, HC.out.cell 3 rfl 1 rfl, HC.out.cell 4 rfl 0 rfl, HC.out.cell 4 rfl 1 rfl, HC.out.cell 5 rfl 0 rfl, HC.out.cell 5 rfl 1 rfl, HC.out.cell 6 rfl 0 rfl, HC.out.cell 6 rfl 1 rfl⟩
      exact outof_G hG (Z7.out x0 cc0 d0 wr HC) (by kernel_rfl) (by rw [hA.out]; try kernel_rfl)
    ⟩
    exact Z8.out  wq0 HC
 ⟩
 have Z1 : Kept (∀ (b3 : Nat) (b4 : Nat) (b5 : Nat) (b6 : Nat) (wq : World), Hid (Mem w wq [cellsR b3 24 #[.slice q0 G0.ns.length c0, .int .i64 G0.root], cellsR b4 24 #[.slice q1 G1.ns.length c1, .int .i64 G1.root], cellsR b5 24 #[.slice q2 G2.ns.length c2, .int .i64 G2.root], cellsR b6 24 #[.slice none 0 0, .int .i64 0], cellsR w.heap.size 36 #[.slice q0 G0.ns.length c0, .int .i64 G0.root, .slice q1 G1.ns.length c1, .int .i64 G1.root, .slice q2 G2.ns.length c2, .int .i64 G2.root, .slice q3 G3.ns.length c3, .int .i64 G3.root]]) → G 1 (bt 16 32767) ((((a0.put (some 3) (.pointer (some ⟨b3, 0, none⟩))).put (some 4) (.pointer (some ⟨b4, 0, none⟩))).put (some 5) (.pointer (some ⟨b5, 0, none⟩))).put (some 6) (.pointer (some ⟨b6, 0, none⟩))) wq) := ⟨by
  intro b3 b4 b5 b6 wq HC
  refine into_G hG ?_
  rw [hA.out]
  try simp only [Act.put, zqf, zqg, zqh]
  have hH := cS.is (w := wq) (⟨HC.out.cell 4 rfl 0 rfl, HC.out.cell 4 rfl 1 rfl, HC.out.cell 4 rfl 2 rfl, HC.out.cell 4 rfl 3 rfl, HC.out.cell 4 rfl 4 rfl, HC.out.cell 4 rfl 5 rfl, HC.out.cell 4 rfl 6 rfl, HC.out.cell 4 rfl 7 rfl⟩)
  refine lOne 15 (by kernel_rfl) ?_
  ·
   refine (LFall.op (by kernel_rfl) (fun K hK => ?_))
   have z0 := HC.out.free 3 rfl 0
   have z1 := HC.out.free 3 rfl 1
   obtain ⟨y0, y1⟩ := HC.out.two 3 rfl
   have HN := Tre.hid ((HC.out.setCell 3 rfl 0 (.slice q3 G3.ns.length c3)).setCell 3 rfl 1 (.int .i64 G3.root))
   go_simp
   clear z0 z1 y0 y1
   generalize hw : World.setCell _ ⟨b6, 1, none⟩ _ = wr at HN ⊢
   clear hw
   refine hK.out _ _ ?_
   exact outof_G hG (Z0.out b3 b4 b5 b6 wr HN) (by kernel_rfl) (by rw [hA.out]; try kernel_rfl)
 ⟩
 have Z2 : Kept (∀ (b3 : Nat) (b4 : Nat) (b5 : Nat) (b6 : Nat) (wq : World), Hid (Mem w wq [cellsR b3 24 #[.slice q0 G0.ns.length c0, .int .i64 G0.root], cellsR b4 24 #[.slice q1 G1.ns.length c1, .int .i64 G1.root], cellsR b5 24 #[.slice none 0 0, .int .i64 0], cellsR b6 24 #[.slice none 0 0, .int .i64 0], cellsR w.heap.size 36 #[.slice q0 G0.ns.length c0, .int .i64 G0.root, .slice q1 G1.ns.length c1, .int .i64 G1.root, .slice q2 G2.ns.length c2, .int .i64 G2.root, .slice q3 G3.ns.length c3, .int .i64 G3.root]]) → G 2 (bt 16 16383) ((((a0.put (some 3) (.pointer (some ⟨b3, 0, none⟩))).put (some 4) (.pointer (some ⟨b4, 0, none⟩))).put (some 5) (.pointer (some ⟨b5, 0, none⟩))).put (some 6) (.pointer (some ⟨b6, 0, none⟩))) wq) := ⟨by
  intro b3 b4 b5 b6 wq HC
  refine into_G hG ?_
  rw [hA.out]
  try simp only [Act.put, zqf, zqg, zqh]
  have hH := cS.is (w := wq) (⟨HC.out.cell 4 rfl 0 rfl, HC.out.cell 4 rfl 1 rfl, HC.out.cell 4 rfl 2 rfl, HC.out.cell 4 rfl 3 rfl, HC.out.cell 4 rfl 4 rfl, HC.out.cell 4 rfl 5 rfl, HC.out.cell 4 rfl 6 rfl, HC.out.cell 4 rfl 7 rfl⟩)
  refine lOne 14 (by kernel_rfl) ?_
  ·
   refine (LStep.op (fun K hK => ?_))
   have z0 := HC.out.free 2 rfl 0
   have z1 := HC.out.free 2 rfl 1
   obtain ⟨y0, y1⟩ := HC.out.two 2 rfl
   have HN := Tre.hid ((HC.out.setCell 2 rfl 0 (.slice q2 G2.ns.length c2)).setCell 2 rfl 1 (.int .i64 G2.root))
   go_simp
   clear z0 z1 y0 y1
   generalize hw : World.setCell _ ⟨b5, 1, none⟩ _ = wr at HN ⊢
   clear hw
   refine hK.out _ _ ?_ (fun hH2 => ?_)
   ·exact ⟨HN.out.cell 4 rfl 0 rfl, HN.out.cell 4 rfl 1 rfl, HN.out.cell 4 rfl 2 rfl, HN.out.cell 4 rfl 3 rfl, HN.out.cell 4 rfl 4 rfl, HN.out.cell 4 rfl 5 rfl, HN.out.cell 4 rfl 6 rfl, HN.out.cell 4 rfl 7 rfl⟩
   exact outof_G hG (Z1.out b3 b4 b5 b6 wr HN) (by kernel_rfl) (by rw [hA.out]; try kernel_rfl)
 ⟩
 have Z3 : Kept (∀ (b3 : Nat) (b4 : Nat) (b5 : Nat) (b6 : Nat) (wq : World), Hid (Mem w wq [cellsR b3 24 #[.slice q0 G0.ns.length c0, .int .i64 G0.root], cellsR b4 24 #[.slice none 0 0, .int .i64 0], cellsR b5 24 #[.slice none 0 0, .int .i64 0], cellsR b6 24 #[.slice none 0 0, .int .i64 0], cellsR w.heap.size 36 #[.slice q0 G0.ns.length c0, .int .i64 G0.root, .slice q1 G1.ns.length c1, .int .i64 G1.root, .slice q2 G2.ns.length c2, .int .i64 G2.root, .slice q3 G3.ns.length c3, .int .i64 G3.root]]) → G 3 (bt 16 8191) ((((a0.put (some 3) (.pointer (some ⟨b3, 0, none⟩))).put (some 4) (.pointer (some ⟨b4, 0, none⟩))).put (some 5) (.pointer (some ⟨b5, 0, none⟩))).put (some 6) (.pointer (some ⟨b6, 0, none⟩))) wq) := ⟨by
  intro b3 b4 b5 b6 wq HC
  refine into_G hG ?_
  rw [hA.out]
  try simp only [Act.put, zqf, zqg, zqh]
  have hH := cS.is (w := wq) (⟨HC.out.cell 4 rfl 0 rfl, HC.out.cell 4 rfl 1 rfl, HC.out.cell 4 rfl 2 rfl, HC.out.cell 4 rfl 3 rfl, HC.out.cell 4 rfl 4 rfl, HC.out.cell 4 rfl 5 rfl, HC.out.cell 4 rfl 6 rfl, HC.out.cell 4 rfl 7 rfl⟩)
  refine lOne 13 (by kernel_rfl) ?_
  ·
   refine (LStep.op (fun K hK => ?_))
   have z0 := HC.out.free 1 rfl 0
   have z1 := HC.out.free 1 rfl 1
   obtain ⟨y0, y1⟩ := HC.out.two 1 rfl
   have HN := Tre.hid ((HC.out.setCell 1 rfl 0 (.slice q1 G1.ns.length c1)).setCell 1 rfl 1 (.int .i64 G1.root))
   go_simp
   clear z0 z1 y0 y1
   generalize hw : World.setCell _ ⟨b4, 1, none⟩ _ = wr at HN ⊢
   clear hw
   refine hK.out _ _ ?_ (fun hH2 => ?_)
   ·exact ⟨HN.out.cell 4 rfl 0 rfl, HN.out.cell 4 rfl 1 rfl, HN.out.cell 4 rfl 2 rfl, HN.out.cell 4 rfl 3 rfl, HN.out.cell 4 rfl 4 rfl, HN.out.cell 4 rfl 5 rfl, HN.out.cell 4 rfl 6 rfl, HN.out.cell 4 rfl 7 rfl⟩
   exact outof_G hG (Z2.out b3 b4 b5 b6 wr HN) (by kernel_rfl) (by rw [hA.out]; try kernel_rfl)
 ⟩
 have Z4 : Kept (∀ (b3 : Nat) (b4 : Nat) (b5 : Nat) (b6 : Nat) (wq : World), Hid (Mem w wq [cellsR b3 24 #[.slice none 0 0, .int .i64 0], cellsR b4 24 #[.slice none 0 0, .int .i64 0], cellsR b5 24 #[.slice none 0 0, .int .i64 0], cellsR b6 24 #[.slice none 0 0, .int .i64 0], cellsR w.heap.size 36 #[.slice q0 G0.ns.length c0, .int .i64 G0.root, .slice q1 G1.ns.length c1, .int .i64 G1.root, .slice q2 G2.ns.length c2, .int .i64 G2.root, .slice q3 G3.ns.length c3, .int .i64 G3.root]]) → G 4 (bt 16 4095) ((((a0.put (some 3) (.pointer (some ⟨b3, 0, none⟩))).put (some 4) (.pointer (some ⟨b4, 0, none⟩))).put (some 5) (.pointer (some ⟨b5, 0, none⟩))).put (some 6) (.pointer (some ⟨b6, 0, none⟩))) wq) := ⟨by
  intro b3 b4 b5 b6 wq HC
  refine into_G hG ?_
  rw [hA.out]
  try simp only [Act.put, zqf, zqg, zqh]
  have hH := cS.is (w := wq) (⟨HC.out.cell 4 rfl 0 rfl, HC.out.cell 4 rfl 1 rfl, HC.out.cell 4 rfl 2 rfl, HC.out.cell 4 rfl 3 rfl, HC.out.cell 4 rfl 4 rfl, HC.out.cell 4 rfl 5 rfl, HC.out.cell 4 rfl 6 rfl, HC.out.cell 4 rfl 7 rfl⟩)
  refine lOne 12 (by kernel_rfl) ?_
  ·
   refine (LStep.op (fun K hK => ?_))
   have z0 := HC.out.free 0 rfl 0
   have z1 := HC.out.free 0 rfl 1
   obtain ⟨y0, y1⟩ := HC.out.two 0 rfl
   have HN := Tre.hid ((HC.out.setCell 0 rfl 0 (.slice q0 G0.ns.length c0)).setCell 0 rfl 1 (.int .i64 G0.root))
   go_simp
   clear z0 z1 y0 y1
   generalize hw : World.setCell _ ⟨b3, 1, none⟩ _ = wr at HN ⊢
   clear hw
   refine hK.out _ _ ?_ (fun hH2 => ?_)
   ·exact ⟨HN.out.cell 4 rfl 0 rfl, HN.out.cell 4 rfl 1 rfl, HN.out.cell 4 rfl 2 rfl, HN.out.cell 4 rfl 3 rfl, HN.out.cell 4 rfl 4 rfl, HN.out.cell 4 rfl 5 rfl, HN.out.cell 4 rfl 6 rfl, HN.out.cell 4 rfl 7 rfl⟩
   exact outof_G hG (Z3.out b3 b4 b5 b6 wr HN) (by kernel_rfl) (by rw [hA.out]; try kernel_rfl)
 ⟩
 have Z5 : Kept (∀ (b3 : Nat) (b4 : Nat) (b5 : Nat) (wq : World), Hid (Mem w wq [cellsR b3 24 #[.slice none 0 0, .int .i64 0], cellsR b4 24 #[.slice none 0 0, .int .i64 0], cellsR b5 24 #[.slice none 0 0, .int .i64 0], cellsR w.heap.size 36 #[.slice q0 G0.ns.length c0, .int .i64 G0.root, .slice q1 G1.ns.length c1, .int .i64 G1.root, .slice q2 G2.ns.length c2, .int .i64 G2.root, .slice q3 G3.ns.length c3, .int .i64 G3.root]]) → G 5 (bt 16 2047) (((a0.put (some 3) (.pointer (some ⟨b3, 0, none⟩))).put (some 4) (.pointer (some ⟨b4, 0, none⟩))).put (some 5) (.pointer (some ⟨b5, 0, none⟩))) wq) := ⟨by
  intro b3 b4 b5 wq HC
  refine into_G hG ?_
  rw [hA.out]
  have hH := cS.is (w := wq) (⟨HC.out.cell 3 rfl 0 rfl, HC.out.cell 3 rfl 1 rfl, HC.out.cell 3 rfl 2 rfl, HC.out.cell 3 rfl 3 rfl, HC.out.cell 3 rfl 4 rfl, HC.out.cell 3 rfl 5 rfl, HC.out.cell 3 rfl 6 rfl, HC.out.cell 3 rfl 7 rfl⟩)
  refine lOne 11 (by kernel_rfl) ?_
  ·
   have HN := Tre.hid (HC.out.allocR #[.slice none 0 0, .int .i64 0] 24)
   have HC := Tre.hid ((((HN.out.front 0 rfl).front 3 rfl).front 3 rfl).front 3 rfl)
   clear HN
   have hH2 := cS.is (w := (wq.alloc (.cells #[.slice none 0 0, .int .i64 0] 24))) (⟨HC.out.cell 4 rfl 0 rfl, HC.out.cell 4 rfl 1 rfl, HC.out.cell 4 rfl 2 rfl, HC.out.cell 4 rfl 3 rfl, HC.out.cell 4 rfl 4 rfl, HC.out.cell 4 rfl 5 rfl, HC.out.cell 4 rfl 6 rfl, HC.out.cell 4 rfl 7 rfl⟩)
   refine LStep.made (some 6) (.pointer (some ⟨wq.heap.size, 0, none⟩)) _ (by kernel_rfl) (by kernel_rfl) hH2 ?_
   exact outof_G hG (Z4.out b3 b4 b5 wq.heap.size _ HC) (by kernel_rfl) (by rw [hA.out]; try kernel_rfl)
 ⟩
 have Z6 : Kept (∀ (b3 : Nat) (b4 : Nat) (b6 : Nat) (wq : World), Hid (Mem w wq [cellsR b3 24 #[.slice none 0 0, .int .i64 0], cellsR b4 24 #[.slice none 0 0, .int .i64 0], cellsR b6 24 #[.slice none 0 0, .int .i64 0], cellsR w.heap.size 36 #[.slice q0 G0.ns.length c0, .int .i64 G0.root, .slice q1 G1.ns.length c1, .int .i64 G1.root, .slice q2 G2.ns.length c2, .int .i64 G2.root, .slice q3 G3.ns.length c3, .int .i64 G3.root]]) → G 5 (bt 16 3071) (((a0.put (some 3) (.pointer (some ⟨b3, 0, none⟩))).put (some 4) (.pointer (some ⟨b4, 0, none⟩))).put (some 6) (.pointer (some ⟨b6, 0, none⟩))) wq) := ⟨by
  intro b3 b4 b6 wq HC
  refine into_G hG ?_
  rw [hA.out]
  have hH := cS.is (w := wq) (⟨HC.out.cell 3 rfl 0 rfl, HC.out.cell 3 rfl 1 rfl, HC.out.cell 3 rfl 2 rfl, HC.out.cell 3 rfl 3 rfl, HC.out.cell 3 rfl 4 rfl, HC.out.cell 3 rfl 5 rfl, HC.out.cell 3 rfl 6 rfl, HC.out.cell 3 rfl 7 rfl⟩)
  refine lOne 10 (by kernel_rfl) ?_
  ·
   have HN := Tre.hid (HC.out.allocR #[.slice none 0 0, .int .i64 0] 24)
   have HC := Tre.hid (((HN.out.front 0 rfl).front 2 rfl).front 2 rfl)
   clear HN
   have hH2 := cS.is (w := (wq.alloc (.cells #[.slice none 0 0, .int .i64 0] 24))) (⟨HC.out.cell 4 rfl 0 rfl, HC.out.cell 4 rfl 1 rfl, HC.out.cell 4 rfl 2 rfl, HC.out.cell 4 rfl 3 rfl, HC.out.cell 4 rfl 4 rfl, HC.out.cell 4 rfl 5 rfl, HC.out.cell 4 rfl 6 rfl, HC.out.cell 4 rfl 7 rfl⟩)
   refine LStep.made (some 5) (.pointer (some ⟨wq.heap.size, 0, none⟩)) _ (by kernel_rfl) (by kernel_rfl) hH2 ?_
   exact outof_G hG (Z4.out b3 b4 wq.heap.size b6 _ HC) (by kernel_rfl) (by rw [hA.out]; try kernel_rfl)
 ⟩
 have Z7 : Kept (∀ (b3 : Nat) (b5 : Nat) (b6 : Nat) (wq : World), Hid (Mem w wq [cellsR b3 24 #[.slice none 0 0, .int .i64 0], cellsR b5 24 #[.slice none 0 0, .int .i64 0], cellsR b6 24 #[.slice none 0 0, .int .i64 0], cellsR w.heap.size 36 #[.slice q0 G0.ns.length c0, .int .i64 G0.root, .slice q1 G1.ns.length c1, .int .i64 G1.root, .slice q2 G2.ns.length c2, .int .i64 G2.root, .slice q3 G3.ns.length c3, .int .i64 G3.root]]) → G 5 (bt 16 3583) (((a0.put (some 3) (.pointer (some ⟨b3, 0, none⟩))).put (some 5) (.pointer (some ⟨b5, 0, none⟩))).put (some 6) (.pointer (some ⟨b6, 0, none⟩))) wq) := ⟨by
  intro b3 b5 b6 wq HC
  refine into_G hG ?_
  rw [hA.out]
  have hH := cS.is (w := wq) (⟨HC.out.cell 3 rfl 0 rfl, HC.out.cell 3 rfl 1 rfl, HC.out.cell 3 rfl 2 rfl, HC.out.cell 3 rfl 3 rfl, HC.out.cell 3 rfl 4 rfl, HC.out.cell 3 rfl 5 rfl, HC.out.cell 3 rfl 6 rfl, HC.out.cell 3 rfl 7 rfl⟩)
  refine lOne 9 (by kernel_rfl) ?_
  ·
   have HN := Tre.hid (HC.out.allocR #[.slice none 0 0, .int .i64 0] 24)
   have HC := Tre.hid ((HN.out.front 0 rfl).front 1 rfl)
   clear HN
   have hH2 := cS.is (w := (wq.alloc (.cells #[.slice none 0 0, .int .i64 0] 24))) (⟨HC.out.cell 4 rfl 0 rfl, HC.out.cell 4 rfl 1 rfl, HC.out.cell 4 rfl 2 rfl, HC.out.cell 4 rfl 3 rfl, HC.out.cell 4 rfl 4 rfl, HC.out.cell 4 rfl 5 rfl, HC.out.cell 4 rfl 6 rfl, HC.out.cell 4 rfl 7 rfl⟩)
   refine LStep.made (some 4) (.pointer (some ⟨wq.heap.size, 0, none⟩)) _ (by kernel_rfl) (by kernel_rfl) hH2 ?_
   exact outof_G hG (Z4.out b3 wq.heap.size b5 b6 _ HC) (by kernel_rfl) (by rw [hA.out]; try kernel_rfl)
 ⟩
 have Z8 : Kept (∀ (b4 : Nat) (b5 : Nat) (b6 : Nat) (wq : World), Hid (Mem w wq [cellsR b4 24 #[.slice none 0 0, .int .i64 0], cellsR b5 24 #[.slice none 0 0, .int .i64 0], cellsR b6 24 #[.slice none 0 0, .int .i64 0], cellsR w.heap.size 36 #[.slice q0 G0.ns.length c0, .int .i64 G0.root, .slice q1 G1.ns.length c1, .int .i64 G1.root, .slice q2 G2.ns.length c2, .int .i64 G2.root, .slice q3 G3.ns.length c3, .int .i64 G3.root]]) → G 5 (bt 16 3839) (((a0.put (some 4) (.pointer (some ⟨b4, 0, none⟩))).put (some 5) (.pointer (some ⟨b5, 0, none⟩))).put (some 6) (.pointer (some ⟨b6, 0, none⟩))) wq) := ⟨by
  intro b4 b5 b6 wq HC
  refine into_G hG ?_
  rw [hA.out]
  have hH := cS.is (w := wq) (⟨HC.out.cell 3 rfl 0 rfl, HC.out.cell 3 rfl 1 rfl, HC.out.cell 3 rfl 2 rfl, HC.out.cell 3 rfl 3 rfl, HC.out.cell 3 rfl 4 rfl, HC.out.cell 3 rfl 5 rfl, HC.out.cell 3 rfl 6 rfl, HC.out.cell 3 rfl 7 rfl⟩)
  refine lOne 8 (by kernel_rfl) ?_
  ·
   have HN := Tre.hid (HC.out.allocR #[.slice none 0 0, .int .i64 0] 24)
   have hH2 := cS.is (w := (wq.alloc (.cells #[.slice none 0 0, .int .i64 0] 24))) (⟨HN.out.cell 4 rfl 0 rfl, HN.out.cell 4 rfl 1 rfl, HN.out.cell 4 rfl 2 rfl, HN.out.cell 4 rfl 3 rfl, HN.out.cell 4 rfl 4 rfl, HN.out.cell 4 rfl 5 rfl, HN.out.cell 4 rfl 6 rfl, HN.out.cell 4 rfl 7 rfl⟩)
   refine LStep.made (some 3) (.pointer (some ⟨wq.heap.size, 0, none⟩)) _ (by kernel_rfl) (by kernel_rfl) hH2 ?_
   exact outof_G hG (Z4.out wq.heap.size b4 b5 b6 _ HN) (by kernel_rfl) (by rw [hA.out]; try kernel_rfl)
 ⟩
 have Z9 : Kept (∀ (b3 : Nat) (b4 : Nat) (wq : World), Hid (Mem w wq [cellsR b3 24 #[.slice none 0 0, .int .i64 0], cellsR b4 24 #[.slice none 0 0, .int .i64 0], cellsR w.heap.size 36 #[.slice q0 G0.ns.length c0, .int .i64 G0.root, .slice q1 G1.ns.length c1, .int .i64 G1.root, .slice q2 G2.ns.length c2, .int .i64 G2.root, .slice q3 G3.ns.length c3, .int .i64 G3.root]]) → G 6 (bt 16 1023) ((a0.put (some 3) (.pointer (some ⟨b3, 0, none⟩))).put (some 4) (.pointer (some ⟨b4, 0, none⟩))) wq) := ⟨by
  intro b3 b4 wq HC
  refine into_G hG ?_
  rw [hA.out]
  have hH := cS.is (w := wq) (⟨HC.out.cell 2 rfl 0 rfl, HC.out.cell 2 rfl 1 rfl, HC.out.cell 2 rfl 2 rfl, HC.out.cell 2 rfl 3 rfl, HC.out.cell 2 rfl 4 rfl, HC.out.cell 2 rfl 5 rfl, HC.out.cell 2 rfl 6 rfl, HC.out.cell 2 rfl 7 rfl⟩)
  refine lTwo 10 11 (by kernel_rfl) ?_ ?_
  ·
   have HN := Tre.hid (HC.out.allocR #[.slice none 0 0, .int .i64 0] 24)
   have HC := Tre.hid (((HN.out.front 0 rfl).front 2 rfl).front 2 rfl)
   clear HN
   have hH2 := cS.is (w := (wq.alloc (.cells #[.slice none 0 0, .int .i64 0] 24))) (⟨HC.out.cell 3 rfl 0 rfl, HC.out.cell 3 rfl 1 rfl, HC.out.cell 3 rfl 2 rfl, HC.out.cell 3 rfl 3 rfl, HC.out.cell 3 rfl 4 rfl, HC.out.cell 3 rfl 5 rfl, HC.out.cell 3 rfl 6 rfl, HC.out.cell 3 rfl 7 rfl⟩)
   refine LStep.made (some 5) (.pointer (some ⟨wq.heap.size, 0, none⟩)) _ (by kernel_rfl) (by kernel_rfl) hH2 ?_
   exact outof_G hG (Z5.out b3 b4 wq.heap.size _ HC) (by kernel_rfl) (by rw [hA.out]; try kernel_rfl)
  ·
   have HN := Tre.hid (HC.out.allocR #[.slice none 0 0, .int .i64 0] 24)
   have HC := Tre.hid (((HN.out.front 0 rfl).front 2 rfl).front 2 rfl)
   clear HN
   have hH2 := cS.is (w := (wq.alloc (.cells #[.slice none 0 0, .int .i64 0] 24))) (⟨HC.out.cell 3 rfl 0 rfl, HC.out.cell 3 rfl 1 rfl, HC.out.cell 3 rfl 2 rfl, HC.out.cell 3 rfl 3 rfl, HC.out.cell 3 rfl 4 rfl, HC.out.cell 3 rfl 5 rfl, HC.out.cell 3 rfl 6 rfl, HC.out.cell 3 rfl 7 rfl⟩)
   refine LStep.made (some 6) (.pointer (some ⟨wq.heap.size, 0, none⟩)) _ (by kernel_rfl) (by kernel_rfl) hH2 ?_
   exact outof_G hG (Z6.out b3 b4 wq.heap.size _ HC) (by kernel_rfl) (by rw [hA.out]; try kernel_rfl)
 ⟩
 have Z10 : Kept (∀ (b3 : Nat) (b5 : Nat) (wq : World), Hid (Mem w wq [cellsR b3 24 #[.slice none 0 0, .int .i64 0], cellsR b5 24 #[.slice none 0 0, .int .i64 0], cellsR w.heap.size 36 #[.slice q0 G0.ns.length c0, .int .i64 G0.root, .slice q1 G1.ns.length c1, .int .i64 G1.root, .slice q2 G2.ns.length c2, .int .i64 G2.root, .slice q3 G3.ns.length c3, .int .i64 G3.root]]) → G 6 (bt 16 1535) ((a0.put (some 3) (.pointer (some ⟨b3, 0, none⟩))).put (some 5) (.pointer (some ⟨b5, 0, none⟩))) wq) := ⟨by
  intro b3 b5 wq HC
  refine into_G hG ?_
  rw [hA.out]
  have hH := cS.is (w := wq) (⟨HC.out.cell 2 rfl 0 rfl, HC.out.cell 2 rfl 1 rfl, HC.out.cell 2 rfl 2 rfl, HC.out.cell 2 rfl 3 rfl, HC.out.cell 2 rfl 4 rfl, HC.out.cell 2 rfl 5 rfl, HC.out.cell 2 rfl 6 rfl, HC.out.cell 2 rfl 7 rfl⟩)
  refine lTwo 9 11 (by kernel_rfl) ?_ ?_
  ·
   have HN := Tre.hid (HC.out.allocR #[.slice none 0 0, .int .i64 0] 24)
   have HC := Tre.hid ((HN.out.front 0 rfl).front 1 rfl)
   clear HN
   have hH2 := cS.is (w := (wq.alloc (.cells #[.slice none 0 0, .int .i64 0] 24))) (⟨HC.out.cell 3 rfl 0 rfl, HC.out.cell 3 rfl 1 rfl, HC.out.cell 3 rfl 2 rfl, HC.out.cell 3 rfl 3 rfl, HC.out.cell 3 rfl 4 rfl, HC.out.cell 3 rfl 5 rfl, HC.out.cell 3 rfl 6 rfl, HC.out.cell 3 rfl 7 rfl⟩)
   refine LStep.made (some 4) (.pointer (some ⟨wq.heap.size, 0, none⟩)) _ (by kernel_rfl) (by kernel_rfl) hH2 ?_
   exact outof_G hG (Z5.out b3 wq.heap.size b5 _ HC) (by kernel_rfl) (by rw [hA.out]; try kernel_rfl)
  ·
   have HN := Tre.hid (HC.out.allocR #[.slice none 0 0, .int .i64 0] 24)
   have HC := Tre.hid (((HN.out.front 0 rfl).front 2 rfl).front 2 rfl)
   clear HN
   have hH2 := cS.is (w := (wq.alloc (.cells #[.slice none 0 0, .int .i64 0] 24))) (⟨HC.out.cell 3 rfl 0 rfl, HC.out.cell 3 rfl 1 rfl, HC.out.cell 3 rfl 2 rfl, HC.out.cell 3 rfl 3 rfl, HC.out.cell 3 rfl 4 rfl, HC.out.cell 3 rfl 5 rfl, HC.out.cell 3 rfl 6 rfl, HC.out.cell 3 rfl 7 rfl⟩)
   refine LStep.made (some 6) (.pointer (some ⟨wq.heap.size, 0, none⟩)) _ (by kernel_rfl) (by kernel_rfl) hH2 ?_
   exact outof_G hG (Z7.out b3 b5 wq.heap.size _ HC) (by kernel_rfl) (by rw [hA.out]; try kernel_rfl)
 ⟩
 have Z11 : Kept (∀ (b3 : Nat) (b6 : Nat) (wq : World), Hid (Mem w wq [cellsR b3 24 #[.slice none 0 0, .int .i64 0], cellsR b6 24 #[.slice none 0 0, .int .i64 0], cellsR w.heap.size 36 #[.slice q0 G0.ns.length c0, .int .i64 G0.root, .slice q1 G1.ns.length c1, .int .i64 G1.root, .slice q2 G2.ns.length c2, .int .i64 G2.root, .slice q3 G3.ns.length c3, .int .i64 G3.root]]) → G 6 (bt 16 2559) ((a0.put (some 3) (.pointer (some ⟨b3, 0, none⟩))).put (some 6) (.pointer (some ⟨b6, 0, none⟩))) wq) := ⟨by
  intro b3 b6 wq HC
  refine into_G hG ?_
  rw [hA.out]
  have hH := cS.is (w := wq) (⟨HC.out.cell 2 rfl 0 rfl, HC.out.cell 2 rfl 1 rfl, HC.out.cell 2 rfl 2 rfl, HC.out.cell 2 rfl 3 rfl, HC.out.cell 2 rfl 4 rfl, HC.out.cell 2 rfl 5 rfl, HC.out.cell 2 rfl 6 rfl, HC.out.cell 2 rfl 7 rfl⟩)
  refine lTwo 9 10 (by kernel_rfl) ?_ ?_
  ·
   have HN := Tre.hid (HC.out.allocR #[.slice none 0 0, .int .i64 0] 24)
   have HC := Tre.hid ((HN.out.front 0 rfl).front 1 rfl)
   clear HN
   have hH2 := cS.is (w := (wq.alloc (.cells #[.slice none 0 0, .int .i64 0] 24))) (⟨HC.out.cell 3 rfl 0 rfl, HC.out.cell 3 rfl 1 rfl, HC.out.cell 3 rfl 2 rfl, HC.out.cell 3 rfl 3 rfl, HC.out.cell 3 rfl 4 rfl, HC.out.cell 3 rfl 5 rfl, HC.out.cell 3 rfl 6 rfl, HC.out.cell 3 rfl 7 rfl⟩)
   refine LStep.made (some 4) (.pointer (some ⟨wq.heap.size, 0, none⟩)) _ (by kernel_rfl) (by kernel_rfl) hH2 ?_
   exact outof_G hG (Z6.out b3 wq.heap.size b6 _ HC) (by kernel_rfl) (by rw [hA.out]; try kernel_rfl)
  ·
   have HN := Tre.hid (HC.out.allocR #[.slice none 0 0, .int .i64 0] 24)
   have HC := Tre.hid ((HN.out.front 0 rfl).front 1 rfl)
   clear HN
   have hH2 := cS.is (w := (wq.alloc (.cells #[.slice none 0 0, .int .i64 0] 24))) (⟨HC.out.cell 3 rfl 0 rfl, HC.out.cell 3 rfl 1 rfl, HC.out.cell 3 rfl 2 rfl, HC.out.cell 3 rfl 3 rfl, HC.out.cell 3 rfl 4 rfl, HC.out.cell 3 rfl 5 rfl, HC.out.cell 3 rfl 6 rfl, HC.out.cell 3 rfl 7 rfl⟩)
   refine LStep.made (some 5) (.pointer (some ⟨wq.heap.size, 0, none⟩)) _ (by kernel_rfl) (by kernel_rfl) hH2 ?_
   exact outof_G hG (Z7.out b3 wq.heap.size b6 _ HC) (by kernel_rfl) (by rw [hA.out]; try kernel_rfl)
 ⟩
 have Z12 : Kept (∀ (b4 : Nat) (b5 : Nat) (wq : World), Hid (Mem w wq [cellsR b4 24 #[.slice none 0 0, .int .i64 0], cellsR b5 24 #[.slice none 0 0, .int .i64 0], cellsR w.heap.size 36 #[.slice q0 G0.ns.length c0, .int .i64 G0.root, .slice q1 G1.ns.length c1, .int .i64 G1.root, .slice q2 G2.ns.length c2, .int .i64 G2.root, .slice q3 G3.ns.length c3, .int .i64 G3.root]]) → G 6 (bt 16 1791) ((a0.put (some 4) (.pointer (some ⟨b4, 0, none⟩))).put (some 5) (.pointer (some ⟨b5, 0, none⟩))) wq) := ⟨by
  intro b4 b5 wq HC
  refine into_G hG ?_
  rw [hA.out]
  have hH := cS.is (w := wq) (⟨HC.out.cell 2 rfl 0 rfl, HC.out.cell 2 rfl 1 rfl, HC.out.cell 2 rfl 2 rfl, HC.out.cell 2 rfl 3 rfl, HC.out.cell 2 rfl 4 rfl, HC.out.cell 2 rfl 5 rfl, HC.out.cell 2 rfl 6 rfl, HC.out.cell 2 rfl 7 rfl⟩)
  refine lTwo 8 11 (by kernel_rfl) ?_ ?_
  ·
   have HN := Tre.hid (HC.out.allocR #[.slice none 0 0, .int .i64 0] 24)
   have hH2 := cS.is (w := (wq.alloc (.cells #[.slice none 0 0, .int .i64 0] 24))) (⟨HN.out.cell 3 rfl 0 rfl, HN.out.cell 3 rfl 1 rfl, HN.out.cell 3 rfl 2 rfl, HN.out.cell 3 rfl 3 rfl, HN.out.cell 3 rfl 4 rfl, HN.out.cell 3 rfl 5 rfl, HN.out.cell 3 rfl 6 rfl, HN.out.cell 3 rfl 7 rfl⟩)
   refine LStep.made (some 3) (.pointer (some ⟨wq.heap.size, 0, none⟩)) _ (by kernel_rfl) (by kernel_rfl) hH2 ?_
   exact outof_G hG (Z5.out wq.heap.size b4 b5 _ HN) (by kernel_rfl) (by rw [hA.out]; try kernel_rfl)
  ·
   have HN := Tre.hid (HC.out.allocR #[.slice none 0 0, .int .i64 0] 24)
   have HC := Tre.hid (((HN.out.front 0 rfl).front 2 rfl).front 2 rfl)
   clear HN
   have hH2 := cS.is (w := (wq.alloc (.cells #[.slice none 0 0, .int .i64 0] 24))) (⟨HC.out.cell 3 rfl 0 rfl, HC.out.cell 3 rfl 1 rfl, HC.out.cell 3 rfl 2 rfl, HC.out.cell 3 rfl 3 rfl, HC.out.cell 3 rfl 4 rfl, HC.out.cell 3 rfl 5 rfl, HC.out.cell 3 rfl 6 rfl, HC.out.cell 3 rfl 7 rfl⟩)
   refine LStep.made (some 6) (.pointer (some ⟨wq.heap.size, 0, none⟩)) _ (by kernel_rfl) (by kernel_rfl) hH2 ?_
   exact outof_G hG (Z8.out b4 b5 wq.heap.size _ HC) (by kernel_rfl) (by rw [hA.out]; try kernel_rfl)
 ⟩
 have Z13 : Kept (∀ (b4 : Nat) (b6 : Nat) (wq : World), Hid (Mem w wq [cellsR b4 24 #[.slice none 0 0, .int .i64 0], cellsR b6 24 #[.slice none 0 0, .int .i64 0], cellsR w.heap.size 36 #[.slice q0 G0.ns.length c0, .int .i64 G0.root, .slice q1 G1.ns.length c1, .int .i64 G1.root, .slice q2 G2.ns.length c2, .int .i64 G2.root, .slice q3 G3.ns.length c3, .int .i64 G3.root]]) → G 6 (bt 16 2815) ((a0.put (some 4) (.pointer (some ⟨b4, 0, none⟩))).put (some 6) (.pointer (some ⟨b6, 0, none⟩))) wq) := ⟨by
  intro b4 b6 wq HC
  refine into_G hG ?_
  rw [hA.out]
  have hH := cS.is (w := wq) (⟨HC.out.cell 2 rfl 0 rfl, HC.out.cell 2 rfl 1 rfl, HC.out.cell 2 rfl 2 rfl, HC.out.cell 2 rfl 3 rfl, HC.out.cell 2 rfl 4 rfl, HC.out.cell 2 rfl 5 rfl, HC.out.cell 2 rfl 6 rfl, HC.out.cell 2 rfl 7 rfl⟩)
  refine lTwo 8 10 (by kernel_rfl) ?_ ?_
  ·
   have HN := Tre.hid (HC.out.allocR #[.slice none 0 0, .int .i64 0] 24)
   have hH2 := cS.is (w := (wq.alloc (.cells #[.slice none 0 0, .int .i64 0] 24))) (⟨HN.out.cell 3 rfl 0 rfl, HN.out.cell 3 rfl 1 rfl, HN.out.cell 3 rfl 2 rfl, HN.out.cell 3 rfl 3 rfl, HN.out.cell 3 rfl 4 rfl, HN.out.cell 3 rfl 5 rfl, HN.out.cell 3 rfl 6 rfl, HN.out.cell 3 rfl 7 rfl⟩)
   refine LStep.made (some 3) (.pointer (some ⟨wq.heap.size, 0, none⟩)) _ (by kernel_rfl) (by kernel_rfl) hH2 ?_
   exact outof_G hG (Z6.out wq.heap.size b4 b6 _ HN) (by kernel_rfl) (by rw [hA.out]; try kernel_rfl)
  ·
   have HN := Tre.hid (HC.out.allocR #[.slice none 0 0, .int .i64 0] 24)
   have HC := Tre.hid ((HN.out.front 0 rfl).front 1 rfl)
   clear HN
   have hH2 := cS.is (w := (wq.alloc (.cells #[.slice none 0 0, .int .i64 0] 24))) (⟨HC.out.cell 3 rfl 0 rfl, HC.out.cell 3 rfl 1 rfl, HC.out.cell 3 rfl 2 rfl, HC.out.cell 3 rfl 3 rfl, HC.out.cell 3 rfl 4 rfl, HC.out.cell 3 rfl 5 rfl, HC.out.cell 3 rfl 6 rfl, HC.out.cell 3 rfl 7 rfl⟩)
   refine LStep.made (some 5) (.pointer (some ⟨wq.heap.size, 0, none⟩)) _ (by kernel_rfl) (by kernel_rfl) hH2 ?_
   exact outof_G hG (Z8.out b4 wq.heap.size b6 _ HC) (by kernel_rfl) (by rw [hA.out]; try kernel_rfl)
 ⟩
 have Z14 : Kept (∀ (b5 : Nat) (b6 : Nat) (wq : World), Hid (Mem w wq [cellsR b5 24 #[.slice none 0 0, .int .i64 0], cellsR b6 24 #[.slice none 0 0, .int .i64 0], cellsR w.heap.size 36 #[.slice q0 G0.ns.length c0, .int .i64 G0.root, .slice q1 G1.ns.length c1, .int .i64 G1.root, .slice q2 G2.ns.length c2, .int .i64 G2.root, .slice q3 G3.ns.length c3, .int .i64 G3.root]]) → G 6 (bt 16 3327) ((a0.put (some 5) (.pointer (some ⟨b5, 0, none⟩))).put (some 6) (.pointer (some ⟨b6, 0, none⟩))) wq) := ⟨by
  intro b5 b6 wq HC
  refine into_G hG ?_
  rw [hA.out]
  have hH := cS.is (w := wq) (⟨HC.out.cell 2 rfl 0 rfl, HC.out.cell 2 rfl 1 rfl, HC.out.cell 2 rfl 2 rfl, HC.out.cell 2 rfl 3 rfl, HC.out.cell 2 rfl 4 rfl, HC.out.cell 2 rfl 5 rfl, HC.out.cell 2 rfl 6 rfl, HC.out.cell 2 rfl 7 rfl⟩)
  refine lTwo 8 9 (by kernel_rfl) ?_ ?_
  ·
   have HN := Tre.hid (HC.out.allocR #[.slice none 0 0, .int .i64 0] 24)
   have hH2 := cS.is (w := (wq.alloc (.cells #[.slice none 0 0, .int .i64 0] 24))) (⟨HN.out.cell 3 rfl 0 rfl, HN.out.cell 3 rfl 1 rfl, HN.out.cell 3 rfl 2 rfl, HN.out.cell 3 rfl 3 rfl, HN.out.cell 3 rfl 4 rfl, HN.out.cell 3 rfl 5 rfl, HN.out.cell 3 rfl 6 rfl, HN.out.cell 3 rfl 7 rfl⟩)
   refine LStep.made (some 3) (.pointer (some ⟨wq.heap.size, 0, none⟩)) _ (by kernel_rfl) (by kernel_rfl) hH2 ?_
   exact outof_G hG (Z7.out wq.heap.size b5 b6 _ HN) (by kernel_rfl) (by rw [hA.out]; try kernel_rfl)
  ·
   have HN := Tre.hid (HC.out.allocR #[.slice none 0 0, .int .i64 0] 24)
   have hH2 := cS.is (w := (wq.alloc (.cells #[.slice none 0 0, .int .i64 0] 24))) (⟨HN.out.cell 3 rfl 0 rfl, HN.out.cell 3 rfl 1 rfl, HN.out.cell 3 rfl 2 rfl, HN.out.cell 3 rfl 3 rfl, HN.out.cell 3 rfl 4 rfl, HN.out.cell 3 rfl 5 rfl, HN.out.cell 3 rfl 6 rfl, HN.out.cell 3 rfl 7 rfl⟩)
   refine LStep.made (some 4) (.pointer (some ⟨wq.heap.size, 0, none⟩)) _ (by kernel_rfl) (by kernel_rfl) hH2 ?_
   exact outof_G hG (Z8.out wq.heap.size b5 b6 _ HN) (by kernel_rfl) (by rw [hA.out]; try kernel_rfl)
 ⟩
 have Z15 : Kept (∀ (b3 : Nat) (wq : World), Hid (Mem w wq [cellsR b3 24 #[.slice none 0 0, .int .i64 0], cellsR w.heap.size 36 #[.slice q0 G0.ns.length c0, .int .i64 G0.root, .slice q1 G1.ns.length c1, .int .i64 G1.root, .slice q2 G2.ns.length c2, .int .i64 G2.root, .slice q3 G3.ns.length c3, .int .i64 G3.root]]) → G 7 (bt 16 511) (a0.put (some 3) (.pointer (some ⟨b3, 0, none⟩))) wq) := ⟨by
  intro b3 wq HC
  refine into_G hG ?_
  rw [hA.out]
  have hH := cS.is (w := wq) (⟨HC.out.cell 1 rfl 0 rfl, HC.out.cell 1 rfl 1 rfl, HC.out.cell 1 rfl 2 rfl, HC.out.cell 1 rfl 3 rfl, HC.out.cell 1 rfl 4 rfl, HC.out.cell 1 rfl 5 rfl, HC.out.cell 1 rfl 6 rfl, HC.out.cell 1 rfl 7 rfl⟩)
  refine lThree 9 10 11 (by kernel_rfl) ?_ ?_ ?_
  ·
   have HN := Tre.hid (HC.out.allocR #[.slice none 0 0, .int .i64 0] 24)
   have HC := Tre.hid ((HN.out.front 0 rfl).front 1 rfl)
   clear HN
   have hH2 := cS.is (w := (wq.alloc (.cells #[.slice none 0 0, .int .i64 0] 24))) (⟨HC.out.cell 2 rfl 0 rfl, HC.out.cell 2 rfl 1 rfl, HC.out.cell 2 rfl 2 rfl, HC.out.cell 2 rfl 3 rfl, HC.out.cell 2 rfl 4 rfl, HC.out.cell 2 rfl 5 rfl, HC.out.cell 2 rfl 6 rfl, HC.out.cell 2 rfl 7 rfl⟩)
   refine LStep.made (some 4) (.pointer (some ⟨wq.heap.size, 0, none⟩)) _ (by kernel_rfl) (by kernel_rfl) hH2 ?_
   exact outof_G hG (Z9.out b3 wq.heap.size _ HC) (by kernel_rfl) (by rw [hA.out]; try kernel_rfl)
  ·
   have HN := Tre.hid (HC.out.allocR #[.slice none 0 0, .int .i64 0] 24)
   have HC := Tre.hid ((HN.out.front 0 rfl).front 1 rfl)
   clear HN
   have hH2 := cS.is (w := (wq.alloc (.cells #[.slice none 0 0, .int .i64 0] 24))) (⟨HC.out.cell 2 rfl 0 rfl, HC.out.cell 2 rfl 1 rfl, HC.out.cell 2 rfl 2 rfl, HC.out.cell 2 rfl 3 rfl, HC.out.cell 2 rfl 4 rfl, HC.out.cell 2 rfl 5 rfl, HC.out.cell 2 rfl 6 rfl, HC.out.cell 2 rfl 7 rfl⟩)
   refine LStep.made (some 5) (.pointer (some ⟨wq.heap.size, 0, none⟩)) _ (by kernel_rfl) (by kernel_rfl) hH2 ?_
   exact outof_G hG (Z10.out b3 wq.heap.size _ HC) (by kernel_rfl) (by rw [hA.out]; try kernel_rfl)
  ·
   have HN := Tre.hid (HC.out.allocR #[.slice none 0 0, .int .i64 0] 24)
   have HC := Tre.hid ((HN.out.front 0 rfl).front 1 rfl)
   clear HN
   have hH2 := cS.is (w := (wq.alloc (.cells #[.slice none 0 0, .int .i64 0] 24))) (⟨HC.out.cell 2 rfl 0 rfl, HC.out.cell 2 rfl 1 rfl, HC.out.cell 2 rfl 2 rfl, HC.out.cell 2 rfl 3 rfl, HC.out.cell 2 rfl 4 rfl, HC.out.cell 2 rfl 5 rfl, HC.out.cell 2 rfl 6 rfl, HC.out.cell 2 rfl 7 rfl⟩)
   refine LStep.made (some 6) (.pointer (some ⟨wq.heap.size, 0, none⟩)) _ (by kernel_rfl) (by kernel_rfl) hH2 ?_
   exact outof_G hG (Z11.out b3 wq.heap.size _ HC) (by kernel_rfl) (by rw [hA.out]; try kernel_rfl)
 ⟩
 have Z16 : Kept (∀ (b4 : Nat) (wq : World), Hid (Mem w wq [cellsR b4 24 #[.slice none 0 0, .int .i64 0], cellsR w.heap.size 36 #[.slice q0 G0.ns.length c0, .int .i64 G0.root, .slice q1 G1.ns.length c1, .int .i64 G1.root, .slice q2 G2.ns.length c2, .int .i64 G2.root, .slice q3 G3.ns.length c3, .int .i64 G3.root]]) → G 7 (bt 16 767) (a0.put (some 4) (.pointer (some ⟨b4, 0, none⟩))) wq) := ⟨by
  intro b4 wq HC
  refine into_G hG ?_
  rw [hA.out]
  have hH := cS.is (w := wq) (⟨HC.out.cell 1 rfl 0 rfl, HC.out.cell 1 rfl 1 rfl, HC.out.cell 1 rfl 2 rfl, HC.out.cell 1 rfl 3 rfl, HC.out.cell 1 rfl 4 rfl, HC.out.cell 1 rfl 5 rfl, HC.out.cell 1 rfl 6 rfl, HC.out.cell 1 rfl 7 rfl⟩)
  refine lThree 8 10 11 (by kernel_rfl) ?_ ?_ ?_
  ·
   have HN := Tre.hid (HC.out.allocR #[.slice none 0 0, .int .i64 0] 24)
   have hH2 := cS.is (w := (wq.alloc (.cells #[.slice none 0 0, .int .i64 0] 24))) (⟨HN.out.cell 2 rfl 0 rfl, HN.out.cell 2 rfl 1 rfl, HN.out.cell 2 rfl 2 rfl, HN.out.cell 2 rfl 3 rfl, HN.out.cell 2 rfl 4 rfl, HN.out.cell 2 rfl 5 rfl, HN.out.cell 2 rfl 6 rfl, HN.out.cell 2 rfl 7 rfl⟩)
   refine LStep.made (some 3) (.pointer (some ⟨wq.heap.size, 0, none⟩)) _ (by kernel_rfl) (by kernel_rfl) hH2 ?_
   exact outof_G hG (Z9.out wq.heap.size b4 _ HN) (by kernel_rfl) (by rw [hA.out]; try kernel_rfl)
  ·
   have HN := Tre.hid (HC.out.allocR #[.slice none 0 0, .int .i64 0] 24)
   have HC := Tre.hid ((HN.out.front 0 rfl).front 1 rfl)
   clear HN
   have hH2 := cS.is (w := (wq.alloc (.cells #[.slice none 0 0, .int .i64 0] 24))) (⟨HC.out.cell 2 rfl 0 rfl, HC.out.cell 2 rfl 1 rfl, HC.out.cell 2 rfl 2 rfl, HC.out.cell 2 rfl 3 rfl, HC.out.cell 2 rfl 4 rfl, HC.out.cell 2 rfl 5 rfl, HC.out.cell 2 rfl 6 rfl, HC.out.cell 2 rfl 7 rfl⟩)
   refine LStep.made (some 5) (.pointer (some ⟨wq.heap.size, 0, none⟩)) _ (by kernel_rfl) (by kernel_rfl) hH2 ?_
   exact outof_G hG (Z12.out b4 wq.heap.size _ HC) (by kernel_rfl) (by rw [hA.out]; try kernel_rfl)
  ·
   have HN := Tre.hid (HC.out.allocR #[.slice none 0 0, .int .i64 0] 24)
   have HC := Tre.hid ((HN.out.front 0 rfl).front 1 rfl)
   clear HN
   have hH2 := cS.is (w := (wq.alloc (.cells #[.slice none 0 0, .int .i64 0] 24))) (⟨HC.out.cell 2 rfl 0 rfl, HC.out.cell 2 rfl 1 rfl, HC.out.cell 2 rfl 2 rfl, HC.out.cell 2 rfl 3 rfl, HC.out.cell 2 rfl 4 rfl, HC.out.cell 2 rfl 5 rfl, HC.out.cell 2 rfl 6 rfl, HC.out.cell 2 rfl 7 rfl⟩)
   refine LStep.made (some 6) (.pointer (some ⟨wq.heap.size, 0, none⟩)) _ (by kernel_rfl) (by kernel_rfl) hH2 ?_
   exact outof_G hG (Z13.out b4 wq.heap.size _ HC) (by kernel_rfl) (by rw [hA.out]; try kernel_rfl)
 ⟩
 have Z17 : Kept (∀ (b5 : Nat) (wq : World), Hid (Mem w wq [cellsR b5 24 #[.slice none 0 0, .int .i64 0], cellsR w.heap.size 36 #[.slice q0 G0.ns.length c0, .int .i64 G0.root, .slice q1 G1.ns.length c1, .int .i64 G1.root, .slice q2 G2.ns.length c2, .int .i64 G2.root, .slice q3 G3.ns.length c3, .int .i64 G3.root]]) → G 7 (bt 16 1279) (a0.put (some 5) (.pointer (some ⟨b5, 0, none⟩))) wq) := ⟨by
  intro b5 wq HC
  refine into_G hG ?_
  rw [hA.out]
  have hH := cS.is (w := wq) (⟨HC.out.cell 1 rfl 0 rfl, HC.out.cell 1 rfl 1 rfl, HC.out.cell 1 rfl 2 rfl, HC.out.cell 1 rfl 3 rfl, HC.out.cell 1 rfl 4 rfl, HC.out.cell 1 rfl 5 rfl, HC.out.cell 1 rfl 6 rfl, HC.out.cell 1 rfl 7 rfl⟩)
  refine lThree 8 9 11 (by kernel_rfl) ?_ ?_ ?_
  ·
   have HN := Tre.hid (HC.out.allocR #[.slice none 0 0, .int .i64 0] 24)
   have hH2 := cS.is (w := (wq.alloc (.cells #[.slice none 0 0, .int .i64 0] 24))) (⟨HN.out.cell 2 rfl 0 rfl, HN.out.cell 2 rfl 1 rfl, HN.out.cell 2 rfl 2 rfl, HN.out.cell 2 rfl 3 rfl, HN.out.cell 2 rfl 4 rfl, HN.out.cell 2 rfl 5 rfl, HN.out.cell 2 rfl 6 rfl, HN.out.cell 2 rfl 7 rfl⟩)
   refine LStep.made (some 3) (.pointer (some ⟨wq.heap.size, 0, none⟩)) _ (by kernel_rfl) (by kernel_rfl) hH2 ?_
   exact outof_G hG (Z10.out wq.heap.size b5 _ HN) (by kernel_rfl) (by rw [hA.out]; try kernel_rfl)
  ·
   have HN := Tre.hid (HC.out.allocR #[.slice none 0 0, .int .i64 0] 24)
   have hH2 := cS.is (w := (wq.alloc (.cells #[.slice none 0 0, .int .i64 0] 24))) (⟨HN.out.cell 2 rfl 0 rfl, HN.out.cell 2 rfl 1 rfl, HN.out.cell 2 rfl 2 rfl, HN.out.cell 2 rfl 3 rfl, HN.out.cell 2 rfl 4 rfl, HN.out.cell 2 rfl 5 rfl, HN.out.cell 2 rfl 6 rfl, HN.out.cell 2 rfl 7 rfl⟩)
   refine LStep.made (some 4) (.pointer (some ⟨wq.heap.size, 0, none⟩)) _ (by kernel_rfl) (by kernel_rfl) hH2 ?_
   exact outof_G hG (Z12.out wq.heap.size b5 _ HN) (by kernel_rfl) (by rw [hA.out]; try kernel_rfl)
  ·
   have HN := Tre.hid (HC.out.allocR #[.slice none 0 0, .int .i64 0] 24)
   have HC := Tre.hid ((HN.out.front 0 rfl).front 1 rfl)
   clear HN
   have hH2 := cS.is (w := (wq.alloc (.cells #[.slice none 0 0, .int .i64 0] 24))) (⟨HC.out.cell 2 rfl 0 rfl, HC.out.cell 2 rfl 1 rfl, HC.out.cell 2 rfl 2 rfl, HC.out.cell 2 rfl 3 rfl, HC.out.cell 2 rfl 4 rfl, HC.out.cell 2 rfl 5 rfl, HC.out.cell 2 rfl 6 rfl, HC.out.cell 2 rfl 7 rfl⟩)
   refine LStep.made (some 6) (.pointer (some ⟨wq.heap.size, 0, none⟩)) _ (by kernel_rfl) (by kernel_rfl) hH2 ?_
   exact outof_G hG (Z14.out b5 wq.heap.size _ HC) (by kernel_rfl) (by rw [hA.out]; try kernel_rfl)
 ⟩
 have Z18 : Kept (∀ (b6 : Nat) (wq : World), Hid (Mem w wq [cellsR b6 24 #[.slice none 0 0, .int .i64 0], cellsR w.heap.size 36 #[.slice q0 G0.ns.length c0, .int .i64 G0.root, .slice q1 G1.ns.length c1, .int .i64 G1.root, .slice q2 G2.ns.length c2, .int .i64 G2.root, .slice q3 G3.ns.length c3, .int .i64 G3.root]]) → G 7 (bt 16 2303) (a0.put (some 6) (.pointer (some ⟨b6, 0, none⟩))) wq) := ⟨by
  intro b6 wq HC
  refine into_G hG ?_
  rw [hA.out]
  have hH := cS.is (w := wq) (⟨HC.out.cell 1 rfl 0 rfl, HC.out.cell 1 rfl 1 rfl, HC.out.cell 1 rfl 2 rfl, HC.out.cell 1 rfl 3 rfl, HC.out.cell 1 rfl 4 rfl, HC.out.cell 1 rfl 5 rfl, HC.out.cell 1 rfl 6 rfl, HC.out.cell 1 rfl 7 rfl⟩)
  refine lThree 8 9 10 (by kernel_rfl) ?_ ?_ ?_
  ·
   have HN := Tre.hid (HC.out.allocR #[.slice none 0 0, .int .i64 0] 24)
   have hH2 := cS.is (w := (wq.alloc (.cells #[.slice none 0 0, .int .i64 0] 24))) (⟨HN.out.cell 2 rfl 0 rfl, HN.out.cell 2 rfl 1 rfl, HN.out.cell 2 rfl 2 rfl, HN.out.cell 2 rfl 3 rfl, HN.out.cell 2 rfl 4 rfl, HN.out.cell 2 rfl 5 rfl, HN.out.cell 2 rfl 6 rfl, HN.out.cell 2 rfl 7 rfl⟩)
   refine LStep.made (some 3) (.pointer (some ⟨wq.heap.size, 0, none⟩)) _ (by kernel_rfl) (by kernel_rfl) hH2 ?_
   exact outof_G hG (Z11.out wq.heap.size b6 _ HN) (by kernel_rfl) (by rw [hA.out]; try kernel_rfl)
  ·
   have HN := Tre.hid (HC.out.allocR #[.slice none 0 0, .int .i64 0] 24)
   have hH2 := cS.is (w := (wq.alloc (.cells #[.slice none 0 0, .int .i64 0] 24))) (⟨HN.out.cell 2 rfl 0 rfl, HN.out.cell 2 rfl 1 rfl, HN.out.cell 2 rfl 2 rfl, HN.out.cell 2 rfl 3 rfl, HN.out.cell 2 rfl 4 rfl, HN.out.cell 2 rfl 5 rfl, HN.out.cell 2 rfl 6 rfl, HN.out.cell 2 rfl 7 rfl⟩)
   refine LStep.made (some 4) (.pointer (some ⟨wq.heap.size, 0, none⟩)) _ (by kernel_rfl) (by kernel_rfl) hH2 ?_
   exact outof_G hG (Z13.out wq.heap.size b6 _ HN) (by kernel_rfl) (by rw [hA.out]; try kernel_rfl)
  ·
   have HN := Tre.hid (HC.out.allocR #[.slice none 0 0, .int .i64 0] 24)
   have hH2 := cS.is (w := (wq.alloc (.cells #[.slice none 0 0, .int .i64 0] 24))) (⟨HN.out.cell 2 rfl 0 rfl, HN.out.cell 2 rfl 1 rfl, HN.out.cell 2 rfl 2 rfl, HN.out.cell 2 rfl 3 rfl, HN.out.cell 2 rfl 4 rfl, HN.out.cell 2 rfl 5 rfl, HN.out.cell 2 rfl 6 rfl, HN.out.cell 2 rfl 7 rfl⟩)
   refine LStep.made (some 5) (.pointer (some ⟨wq.heap.size, 0, none⟩)) _ (by kernel_rfl) (by kernel_rfl) hH2 ?_
   exact outof_G hG (Z14.out wq.heap.size b6 _ HN) (by kernel_rfl) (by rw [hA.out]; try kernel_rfl)
 ⟩
 have Z19 : Kept (∀ (wq : World), Hid (Mem w wq [cellsR w.heap.size 36 #[.slice q0 G0.ns.length c0, .int .i64 G0.root, .slice q1 G1.ns.length c1, .int .i64 G1.root, .slice q2 G2.ns.length c2, .int .i64 G2.root, .slice q3 G3.ns.length c3, .int .i64 G3.root]]) → G 8 (bt 16 255) (a0) wq) := ⟨by
  intro  wq HC
  refine into_G hG ?_
  rw [hA.out]
  have hH := cS.is (w := wq) (⟨HC.out.cell 0 rfl 0 rfl, HC.out.cell 0 rfl 1 rfl, HC.out.cell 0 rfl 2 rfl, HC.out.cell 0 rfl 3 rfl, HC.out.cell 0 rfl 4 rfl, HC.out.cell 0 rfl 5 rfl, HC.out.cell 0 rfl 6 rfl, HC.out.cell 0 rfl 7 rfl⟩)
  refine lFour 8 9 10 11 (by kernel_rfl) ?_ ?_ ?_ ?_
  ·
   have HN := Tre.hid (HC.out.allocR #[.slice none 0 0, .int .i64 0] 24)
   have hH2 := cS.is (w := (wq.alloc (.cells #[.slice none 0 0, .int .i64 0] 24))) (⟨HN.out.cell 1 rfl 0 rfl, HN.out.cell 1 rfl 1 rfl, HN.out.cell 1 rfl 2 rfl, HN.out.cell 1 rfl 3 rfl, HN.out.cell 1 rfl 4 rfl, HN.out.cell 1 rfl 5 rfl, HN.out.cell 1 rfl 6 rfl, HN.out.cell 1 rfl 7 rfl⟩)
   refine LStep.made (some 3) (.pointer (some ⟨wq.heap.size, 0, none⟩)) _ (by kernel_rfl) (by kernel_rfl) hH2 ?_
   exact outof_G hG (Z15.out wq.heap.size _ HN) (by kernel_rfl) (by rw [hA.out]; try kernel_rfl)
  ·
   have HN := Tre.hid (HC.out.allocR #[.slice none 0 0, .int .i64 0] 24)
   have hH2 := cS.is (w := (wq.alloc (.cells #[.slice none 0 0, .int .i64 0] 24))) (⟨HN.out.cell 1 rfl 0 rfl, HN.out.cell 1 rfl 1 rfl, HN.out.cell 1 rfl 2 rfl, HN.out.cell 1 rfl 3 rfl, HN.out.cell 1 rfl 4 rfl, HN.out.cell 1 rfl 5 rfl, HN.out.cell 1 rfl 6 rfl, HN.out.cell 1 rfl 7 rfl⟩)
   refine LStep.made (some 4) (.pointer (some ⟨wq.heap.size, 0, none⟩)) _ (by kernel_rfl) (by kernel_rfl) hH2 ?_
   exact outof_G hG (Z16.out wq.heap.size _ HN) (by kernel_rfl) (by rw [hA.out]; try kernel_rfl)
  ·
   have HN := Tre.hid (HC.out.allocR #[.slice none 0 0, .int .i64 0] 24)
   have hH2 := cS.is (w := (wq.alloc (.cells #[.slice none 0 0, .int .i64 0] 24))) (⟨HN.out.cell 1 rfl 0 rfl, HN.out.cell 1 rfl 1 rfl, HN.out.cell 1 rfl 2 rfl, HN.out.cell 1 rfl 3 rfl, HN.out.cell 1 rfl 4 rfl, HN.out.cell 1 rfl 5 rfl, HN.out.cell 1 rfl 6 rfl, HN.out.cell 1 rfl 7 rfl⟩)
   refine LStep.made (some 5) (.pointer (some ⟨wq.heap.size, 0, none⟩)) _ (by kernel_rfl) (by kernel_rfl) hH2 ?_
   exact outof_G hG (Z17.out wq.heap.size _ HN) (by kernel_rfl) (by rw [hA.out]; try kernel_rfl)
  ·
   have HN := Tre.hid (HC.out.allocR #[.slice none 0 0, .int .i64 0] 24)
   have hH2 := cS.is (w := (wq.alloc (.cells #[.slice none 0 0, .int .i64 0] 24))) (⟨HN.out.cell 1 rfl 0 rfl, HN.out.cell 1 rfl 1 rfl, HN.out.cell 1 rfl 2 rfl, HN.out.cell 1 rfl 3 rfl, HN.out.cell 1 rfl 4 rfl, HN.out.cell 1 rfl 5 rfl, HN.out.cell 1 rfl 6 rfl, HN.out.cell 1 rfl 7 rfl⟩)
   refine LStep.made (some 6) (.pointer (some ⟨wq.heap.size, 0, none⟩)) _ (by kernel_rfl) (by kernel_rfl) hH2 ?_
   exact outof_G hG (Z18.out wq.heap.size _ HN) (by kernel_rfl) (by rw [hA.out]; try kernel_rfl)
 ⟩
 exact Z19.out  wq0 HC
end Go.Proofs.YtoieknnnadgfpaaGreatDoor.gr
