/- SubGrows: the walk. -/
import Derived.Test.YtoieknnnadgfpaaGreatDoorB35
import Derived.Test.YtoieknnnadgfpaaGreatDoorB36
import Derived.Test.YtoieknnnadgfpaaGreatDoorB00
import Derived.IntWalk
set_option linter.unusedVariables false
namespace Go.Proofs.YtoieknnnadgfpaaGreatDoor.gr
open Go.RowKit Go.Shelf Go.Maps Go.Tre lex
theorem below_below {w w1 w2 : World} (h : Below w.heap.size w w1) (k : Below w1.heap.size w1 w2) : Below w.heap.size w w2 := ((Mem.of_below h).quiet k).below
theorem closedB_iff {g : Tre.Graph} : closedB g = true ↔ g.checkC = 0 ∧ g.freeL.length = 0 := by unfold closedB; rw [Bool.and_eq_true, decide_eq_true_iff, decide_eq_true_iff]
theorem infoS14 : (Tryz.prog.info? 9).map (fun i => (i.zero, i.size, i.bytes)) = some (some (.string ⟨#[]⟩), 1, 16) := by kernel_rfl
theorem infoI14 : (Tryz.prog.info? 3).map (fun i => (i.zero, i.size, i.bytes)) = some (some (.int .i64 0), 1, 8) := by kernel_rfl
theorem nrow1 {w : World} {e : TypeId} {a : Option Addr} {c n : Nat} {L : List Value} (h : w.ownsRow 0 e 1 (.slice a n c) n L) : Row w 1 a n L := by
 obtain ⟨a', c', e, _, r⟩ := row_read h
 cases e
 exact r
theorem kind_labels' {X : Tre.Node} {k : Nat} (h : mayB X k = true) (hl : X.labels ≠ []) : X.kind = 3 := by
 unfold mayB at h
 rw [Bool.and_eq_true] at h
 have h2 := h.2
 split at h2
 ·simp at h2; exact absurd h2.1.1.1 hl
 ·split at h2
  ·simp at h2; exact absurd h2.1.1 hl
  ·split at h2
   ·assumption
   ·cases h2
theorem own_one (a l : Option Addr) (n1 k1 n2 k2 : Nat) : ∀ u ∈ (#[.int .i64 3, .string { data := #[] }, .slice a n1 k1, .slice l n2 k2, .bool false] : Array Value).toList, u.oneCell' = true := by simp [Value.oneCell']
theorem more_nodes {w7 W : World} {g : Tre.Graph} {X : Tre.Node} {j n rg c9 d e : Nat} {a9 l a : Option Addr} {LS : List ByteArray} {LT : List Int} {dg : List NodeV} (hb : Below w7.heap.size w7 W)
  (hG : (rowR 33 5 (.slice a9 (n + 1) c9) (n + 1) (dg.flatMap NodeV.cells ++ (#[.int .i64 3, .string { data := #[] }, .slice a LT.length e, .slice l LS.length d, .bool false] : Array Value).toList)).P W) (hS : (rowR 9 1 (.slice l LS.length d) LS.length (LS.map Value.string)).P W) (hT : (rowR 3 1 (.slice a LT.length e) LT.length (LT.map (Value.int .i64))).P W)
  (eS : LS = X.labels.insertIdx j unB) (eT : LT = X.args.insertIdx j g.root) (hl : dg.length = n) (hd : dg.map NodeV.n = g.ns) (hv : ∀ d ∈ dg, NodeVal w7 d) (hX : g.nd rg = X) (hr : g.root.toNat = rg) (hr2 : g.root = (rg : Int)) : NodesAt W a9 (moreG g j unB).ns := by
 obtain ⟨al, cl, e1, ll, rl⟩ := row_read hS
 obtain ⟨aa, ca, e2, la, ra⟩ := row_read hT
 cases e1
 cases e2
 have NA := nodesAt_of (w := W) (a := a9) (c := c9) (ds := dg ++ [⟨moreN X j unB g.root, .slice a LT.length e, .slice l LS.length d⟩]) (by
  rw [List.length_append, List.length_singleton, hl, nodesR_snoc, hl]
  exact hG) (fun x hx => by
  rcases List.mem_append.1 hx with hx | hx
  ·exact (hv x hx).below hb
  ·rw [List.mem_singleton] at hx; subst hx
   have h1 : (moreN X j unB g.root).args = LT := eT.symm
   have h2 : (moreN X j unB g.root).labels = LS := eS.symm
   refine ⟨a, e, l, d, by rw [h1], by rw [h2], ?_, ?_, by rw [h1]; exact la, by rw [h2]; exact ll⟩
   ·show IntsAt W a (moreN X j unB g.root).args
    rw [h1]; exact ra
   ·show StrsAt W l (moreN X j unB g.root).labels
    rw [h2]; exact rl)
 rw [List.map_append, hd] at NA
 have e0 : (moreG g j unB).ns = g.ns ++ [moreN X j unB g.root] := by show g.ns ++ [moreN (g.nd g.root.toNat) j unB g.root] = _; rw [hr, hX]
 rw [e0]
 exact NA
set_option maxRecDepth 100000 in
set_option maxHeartbeats 16000000 in
theorem growsLaw (ag ah : Option Addr) (ca cb : Nat) (g h : Tre.Graph) (l : Nat) (w : World) (hg : NodesAt w ag g.ns) (hh : NodesAt w ah h.ns) (wg : g.weight + 5 * g.ns.length + 3 ≤ 1048576) (wh : h.weight + 5 * h.ns.length + 3 ≤ 1048576) (hl : l ≤ 255) (E : LexEnv w) :
  Calls Tryz.prog 5 #[.agg #[.slice ag g.ns.length ca, .int .i64 g.root], .agg #[.slice ah h.ns.length cb, .int .i64 h.root], .int .u8 (l : Int)] w fun e w' => e = .returned (.bool true) ∧ Below w.heap.size w w' := by
 have M := ((Mem.nil w).allocR #[.slice ag g.ns.length ca, .int .i64 g.root] 24).allocR #[.slice ah h.ns.length cb, .int .i64 h.root] 24
 simp only [heapSize_alloc] at M
 have HM0 := Tre.hid M
 have HX := Tre.hid E.max
 have HG := Tre.hid hg
 have HH := Tre.hid hh
 have HAL := Tre.hid (alive12 _ (E.below M.below))
 clear E hg hh M
 go_enter Tryz.func5, Tryz.ntmps5
 go_wp2_with fail
 refine HAL.out.mono ?_
 rintro e w1 ⟨rfl, bq⟩
 have HM1 := Tre.hid (HM0.out.quiet bq)
 clear bq HAL HM0
 obtain ⟨g0, g1⟩ := HM1.out.two 1 rfl
 obtain ⟨h0, h1⟩ := HM1.out.two 0 rfl
 go_wp2_with fail
 refine (great.great ag ca g _ (by omega) (HG.out.below HM1.out.below)).mono ?_
 rintro e w2 ⟨rfl, bq⟩
 have HM2 := Tre.hid (HM1.out.quiet bq)
 clear bq HM1 g0 g1 h0 h1
 obtain ⟨g0, g1⟩ := HM2.out.two 1 rfl
 obtain ⟨h0, h1⟩ := HM2.out.two 0 rfl
 by_cases tg : (150 : Int) < g.great
 ·have t := tg
  go_wp2_with fail
  go_ret
  exact ⟨rfl, HM2.out.below⟩
 have ng : g.ns.length ≤ 150 := by have := g.great_len; omega
 go_wp2_with fail
 refine (great.great ah cb h _ (by omega) (HH.out.below HM2.out.below)).mono ?_
 rintro e w3 ⟨rfl, bq⟩
 have HM3 := Tre.hid (HM2.out.quiet bq)
 clear bq HM2 g0 g1 h0 h1
 obtain ⟨g0, g1⟩ := HM3.out.two 1 rfl
 obtain ⟨h0, h1⟩ := HM3.out.two 0 rfl
 by_cases th : (150 : Int) < h.great
 ·have t := th
  go_wp2_with fail
  go_ret
  exact ⟨rfl, HM3.out.below⟩
 have nh : h.ns.length ≤ 150 := by have := h.great_len; omega
 go_wp2_with fail
 refine (closed_any ag ca g _ (HG.out.below HM3.out.below) (by omega) (HX.out.below HM3.out.below)).mono ?_
 rintro e w4 ⟨rfl, bq⟩
 have HM4 := Tre.hid (HM3.out.quiet bq)
 clear bq HM3 g0 g1 h0 h1
 obtain ⟨g0, g1⟩ := HM4.out.two 1 rfl
 obtain ⟨h0, h1⟩ := HM4.out.two 0 rfl
 by_cases zg : closedB g = false
 ·rw [zg]
  go_wp2_with fail
  go_ret
  exact ⟨rfl, HM4.out.below⟩
 have zg : closedB g = true := by cases hz : closedB g; exact absurd hz zg; rfl
 rw [zg]
 have Cg := Tre.hid (closedB_iff.1 zg)
 clear zg
 go_wp2_with fail
 refine (closed_any ah cb h _ (HH.out.below HM4.out.below) (by omega) (HX.out.below HM4.out.below)).mono ?_
 rintro e w5 ⟨rfl, bq⟩
 have HM5 := Tre.hid (HM4.out.quiet bq)
 clear bq HM4 g0 g1 h0 h1
 obtain ⟨g0, g1⟩ := HM5.out.two 1 rfl
 obtain ⟨h0, h1⟩ := HM5.out.two 0 rfl
 by_cases zh : closedB h = false
 ·rw [zh]
  go_wp2_with fail
  go_ret
  exact ⟨rfl, HM5.out.below⟩
 have zh : closedB h = true := by cases hz : closedB h; exact absurd hz zh; rfl
 rw [zh]
 have Ch := Tre.hid (closedB_iff.1 zh)
 clear zh
 have HMAY : Hid (∀ W, Below w.heap.size w W → Calls Tryz.prog 12 #[.agg #[.slice ag g.ns.length ca, .int .i64 g.root], .agg #[.slice ah h.ns.length cb, .int .i64 h.root]] W fun e w' => e = .returned (.bool (subB g h)) ∧ Below W.heap.size W w') := fun W hW =>
  mays_any ag ah ca cb g h W (HG.out.below hW) (HH.out.below hW) (by omega) (by omega) (by omega) (by omega) (HX.out.below hW) Cg.out.1 Ch.out.1 (shut_of Cg.out.1 Cg.out.2) (shut_of Ch.out.1 Ch.out.2)
 go_wp2_with fail
 refine (HMAY.out _ HM5.out.below).mono ?_
 rintro e wm ⟨rfl, bq⟩
 have HM6 := Tre.hid (HM5.out.quiet bq)
 clear bq HM5 HMAY g0 g1 h0 h1
 by_cases zs : subB g h = false
 ·rw [zs]
  go_wp2_with fail
  go_ret
  exact ⟨rfl, HM6.out.below⟩
 have zs : subB g h = true := by cases hz : subB g h; exact absurd hz zs; rfl
 rw [zs]
 have HS := Tre.hid zs
 clear zs
 have og := Graph.ok_of Cg.out.1
 have oh := Graph.ok_of Ch.out.1
 obtain ⟨rg, hrg⟩ : ∃ r : Nat, g.root = (r : Int) := ⟨g.root.toNat, by have := og.root0; omega⟩
 obtain ⟨rh, hrh⟩ : ∃ r : Nat, h.root = (r : Int) := ⟨h.root.toNat, by have := oh.root0; omega⟩
 have eg : g.root.toNat = rg := by omega
 have eh : h.root.toNat = rh := by omega
 have lg : rg < g.ns.length := by have := og.root1; omega
 have lh : rh < h.ns.length := by have := oh.root1; omega
 obtain ⟨n, hn⟩ : ∃ n : Nat, g.ns.length = n := ⟨_, rfl⟩
 obtain ⟨m, hm⟩ : ∃ m : Nat, h.ns.length = m := ⟨_, rfl⟩
 obtain ⟨gA, oA, rfl, nx⟩ := HG.out.at_ rg (g.nd rg) (by rw [Graph.nd_eq lg]; exact List.getElem?_eq_getElem lg)
 obtain ⟨gB, oB, rfl, ny⟩ := HH.out.at_ rh (h.nd rh) (by rw [Graph.nd_eq lh]; exact List.getElem?_eq_getElem lh)
 obtain ⟨dg, hdg, hcg, hvg⟩ := nodes_vals HG.out
 have ldg : dg.length = n := by rw [← hn, ← hdg, List.length_map]
 have hkk := sub_kind HS.out
 rw [eg, eh] at hkk
 have hmg := og.may _ lg
 have hmh := oh.may _ lh
 have wXg : (g.nd rg).weight ≤ g.weight := by rw [Graph.nd_eq lg]; exact node_weight (List.getElem_mem lg)
 have wYh : (h.nd rh).weight ≤ h.weight := by rw [Graph.nd_eq lh]; exact node_weight (List.getElem_mem lh)
 have hdx : (g.nd rg).kind = 3 → (g.nd rg).labels.length = (g.nd rg).args.length ∧ rising (g.nd rg).labels = true := fun h3 => obj_deg og lg h3
 rw [hn, hm, hrg, hrh] at HM6
 rw [hn, hm, hrg, hrh]
 obtain ⟨X, hX⟩ : ∃ X, g.nd rg = X := ⟨_, rfl⟩
 obtain ⟨Y, hY⟩ : ∃ Y, h.nd rh = Y := ⟨_, rfl⟩
 rw [hX] at nx hkk hmg wXg hdx
 rw [hY] at ny hkk hmh wYh
 obtain ⟨ax, cx, lx, dx, x0, x1, x2, x3, x4, xA, xL, hcax, hclx⟩ := nx
 obtain ⟨ay, cy, ly, dy, y0, y1, y2, y3, y4, yA, yL, hcay, hcly⟩ := ny
 have HDG := Tre.hid hdg
 have HCG := Tre.hid hcg
 have HVG := Tre.hid hvg
 have LDG := Tre.hid ldg
 have HNG := Tre.hid hn
 have HNH := Tre.hid hm
 have HRG := Tre.hid hrg
 have HRH := Tre.hid hrh
 have HEG := Tre.hid eg
 have HEH := Tre.hid eh
 have HXE := Tre.hid hX
 have HYE := Tre.hid hY
 have HKK := Tre.hid hkk
 have HMH := Tre.hid hmh
 have HDX := Tre.hid hdx
 have HWG := Tre.hid wg
 have HWH := Tre.hid wh
 have X2 := Tre.hid x2
 have X3 := Tre.hid x3
 have XA := Tre.hid xA
 have XL := Tre.hid xL
 have YL := Tre.hid yL
 have hxl : X.labels.length ≤ 1048576 := by have := labels_len X; omega
 have hyl : Y.labels.length ≤ 1048576 := by have := labels_len Y; omega
 have hxa : X.args.length ≤ 1048576 := by have := args_len X; omega
 have hnl : n ≤ 150 := by omega
 have hml : m ≤ 150 := by omega
 have LG := Tre.hid lg
 have m1 : (0 : Int) ≤ (rh : Int) := by omega
 have m2 : (rh : Int) < (m : Int) := by omega
 have HYB := Tre.hid HM6.out.below
 have y0 := cell_below HYB.out y0
 have y1 := cell_below HYB.out y1
 have y2 := cell_below HYB.out y2
 have y3 := cell_below HYB.out y3
 have y4 := cell_below HYB.out y4
 obtain ⟨h0, h1⟩ := HM6.out.two 0 rfl
 clear og oh hrg hrh eg eh lg lh hn hm hdg hcg hvg ldg hkk hmg hmh wXg wYh hdx hX hY x0 x1 x2 x3 x4 xA xL yA yL hcax hcay hcly wg wh ng nh HYB
 have HN7 := Tre.hid (HM6.out.allocR #[.int .i64 Y.kind, .string Y.name, .slice ay Y.args.length cy, .slice ly Y.labels.length dy, .bool Y.isOpen] 33)
 go_upto_region 6 with fail
 clear y0 y1 y2 y3 y4 h0 h1 m1 m2 tg th
 generalize hw : World.alloc _ _ = w6 at HN7 ⊢
 generalize hb : wm.heap.size = b7 at HN7 ⊢
 clear hw hb HM6
 have P30 : Hid (w6.cell? ⟨w.heap.size, 0, none⟩ = some (.slice (some ⟨gA, oA, none⟩) n ca)) := HN7.out.cell 2 rfl 0 rfl
 have P31 : Hid (w6.cell? ⟨w.heap.size, 1, none⟩ = some (.int .i64 (rg : Int))) := HN7.out.cell 2 rfl 1 rfl
 have P40 : Hid (w6.cell? ⟨w.heap.size + 1, 0, none⟩ = some (.slice (some ⟨gB, oB, none⟩) m cb)) := HN7.out.cell 1 rfl 0 rfl
 have P41 : Hid (w6.cell? ⟨w.heap.size + 1, 1, none⟩ = some (.int .i64 (rh : Int))) := HN7.out.cell 1 rfl 1 rfl
 have P70 : Hid (w6.cell? ⟨b7, 0, none⟩ = some (.int .i64 Y.kind)) := HN7.out.cell 0 rfl 0 rfl
 have P73 : Hid (w6.cell? ⟨b7, 3, none⟩ = some (.slice ly Y.labels.length dy)) := HN7.out.cell 0 rfl 3 rfl
 have HB6 := Tre.hid HN7.out.below
 clear HN7
 have p70 := P70.out
 have p73 := P73.out
 by_cases hlab : Y.labels = []
 ·simp only [hlab, List.length_nil] at p73
  clear hlab hyl
  cases hk : (Y.kind != 3) with
  | true =>
   go_wp2_with fail
   go_ret
   exact ⟨rfl, HB6.out⟩
  | false =>
   go_wp2_with fail
   go_ret
   exact ⟨rfl, HB6.out⟩
 ·have h3 : Y.kind = 3 := kind_labels' HMH.out hlab
  have hk : (Y.kind != 3) = false := by rw [h3]; rfl
  have hlp : 0 < Y.labels.length := List.length_pos_iff.2 hlab
  obtain ⟨bl, ol, rfl⟩ := strs_some YL.out hlp
  obtain ⟨i, hi⟩ : ∃ i, l % Y.labels.length = i := ⟨_, rfl⟩
  have hil : i < Y.labels.length := by rw [← hi]; exact Nat.mod_lt _ hlp
  obtain ⟨s, hs⟩ : ∃ s, Y.labels[i]? = some s := ⟨_, List.getElem?_eq_getElem hil⟩
  have hkq : (l : Int).tmod (Y.labels.length : Int) = (i : Int) := by rw [Int.tmod_eq_emod_of_nonneg (by omega), ← hi]; omega
  have PS : Hid (w6.cell? ⟨bl, ol + i, none⟩ = some (.string s)) := by
   obtain ⟨b', o', e, hc⟩ := (YL.out.below HB6.out).at_ i (.string s) (by rw [List.getElem?_map, hs]; rfl)
   cases e
   exact hc
  have FL := fun W (hW : Below w.heap.size w W) => forget_any gB oB cb i h s W (HH.out.below hW) (by have := HWH.out; omega) (HX.out.below hW) Ch.out.1 (by rw [HEH.out, HYE.out]; exact h3) (by rw [HEH.out, HYE.out]; exact hs)
  rw [HNH.out, HRH.out] at FL
  have HFG : Hid (∀ W, Below w6.heap.size w6 W → Calls Tryz.prog 15 #[.agg #[.slice (some ⟨gB, oB, none⟩) m cb, .int .i64 (rh : Int)], .string s] W fun e w' => ∃ v ds, e = .returned (.tuple #[.agg #[v, .int .i64 0], .int .i64 0]) ∧ ds.map NodeV.n = (h.lessG i).ns ∧ Mem W w' [nodesR v ds, kidsR ds]) := fun W hW => FL W (below_below HB6.out hW)
  have H3 := Tre.hid h3
  have HIL := Tre.hid hil
  clear FL h3 hlp hi hs
  have hlq : ((Y.labels.length : Int) == 0) = false := by rw [beq_eq_false_iff_ne]; omega
  go_upto_region 8 with fail
  clear p70 p73 hk
  have m1 : (0 : Int) ≤ (i : Int) := by omega
  have m2 : (i : Int) < (Y.labels.length : Int) := by omega
  have hn0 : ¬ Y.labels.length = 0 := by omega
  have hn2 : ¬ (Y.labels.length : Int) = 0 := by omega
  have cS : Cond (fun w' => w'.cell? ⟨w.heap.size + 1, 0, none⟩ = some (.slice (some ⟨gB, oB, none⟩) m cb) ∧ w'.cell? ⟨w.heap.size + 1, 1, none⟩ = some (.int .i64 (rh : Int)) ∧ w'.cell? ⟨b7, 3, none⟩ = some (.slice (some ⟨bl, ol, none⟩) Y.labels.length dy) ∧ w'.cell? ⟨bl, ol + i, none⟩ = some (.string s)) := ⟨⟩
  refine cS.keep [16] ?_ (fun hH => ?_)
  ·exact ⟨P40.out, P41.out, P73.out, PS.out⟩
  have HC := Tre.hid (Mem.nil w6).drew
  generalize hq : World.drew _ = wq0 at HC hH ⊢
  clear hq
  try simp only [Act.put, zqf, zqg, zqh]
  refine lTq 0 (some 57) (v := ?_) rfl ?_ hH ?_
  rotate_left
  ·intro w hSw; (try dsimp only at hSw); go_simp <;> with_reducible rfl
  try simp only [Act.put, zqf, zqg, zqh]
  refine lPv 1 (some 58) (.pointer (some ⟨b7, 3, none⟩)) (keep_of hH) ?_
  try simp only [Act.put, zqf, zqg, zqh]
  refine lTq 2 (some 59) (v := ?_) rfl ?_ hH ?_
  rotate_left
  ·intro w hSw; (try dsimp only at hSw); go_simp <;> with_reducible rfl
  try simp only [Act.put, zqf, zqg, zqh]
  refine lPv 3 (some 60) (.int .u8 (l : Int)) (keep_of hH) ?_
  refine lPu 4 (some 61) (.int .i64 (l : Int)) (by kernel_rfl) (fun _ _ _ h => h) (fun w => Eq.trans (b := some (true, .ok (.value (.int .i64 (IntKind.i64.wrap (l : Int)))) w)) (by kernel_rfl) (by rw [IntWalk.i64_in _ (by omega)])) (keep_of hH) ?_
  refine lPv 5 (some 62) (.pointer (some ⟨b7, 3, none⟩)) (keep_of hH) ?_
  try simp only [Act.put, zqf, zqg, zqh]
  refine lTq 6 (some 63) (v := ?_) rfl ?_ hH ?_
  rotate_left
  ·intro w hSw; (try dsimp only at hSw); go_simp <;> with_reducible rfl
  try simp only [Act.put, zqf, zqg, zqh]
  refine lPv 7 (some 64) (.int .i64 (Y.labels.length : Int)) (keep_of hH) ?_
  try simp only [Act.put, zqf, zqg, zqh]
  refine lPq 8 (some 65) (v := ?_) rfl ?_ (keep_of hH) ?_
  rotate_left
  ·intro w; go_simp <;> with_reducible rfl
  try simp only [Act.put, zqf, zqg, zqh]
  refine lPq 9 (some 66) (v := ?_) rfl ?_ (keep_of hH) ?_
  rotate_left
  ·intro w; go_simp <;> with_reducible rfl
  try simp only [Act.put, zqf, zqg, zqh]
  refine lTq 10 (some 67) (v := ?_) rfl ?_ hH ?_
  rotate_left
  ·intro w hSw; (try dsimp only at hSw); go_simp <;> with_reducible rfl
  try simp only [Act.put, zqf, zqg, zqh]
  try simp only [Act.put, zqf, zqg, zqh]
  refine with_G (G0 := wpAnyL _ _ _ _ _ _) ?_
  intro G hG a0 hA
  have Z0 : Kept (∀ (aL : Option Addr) (cL : Nat) (dL : List NodeV) (b8 : Nat) (wq : World), Hid (Mem w6 wq [cellsR b8 24 #[.slice aL dL.length cL, .int .i64 0], nodesR (.slice aL dL.length cL) dL, kidsR dL, factR (dL.map NodeV.n = (h.lessG i).ns)]) → G 0 (bt 18 262143) ((((((a0.put (some 68) (.tuple #[.agg #[.slice aL dL.length cL, .int .i64 0], .int .i64 0])).put (some 56) (.tuple #[.agg #[.slice aL dL.length cL, .int .i64 0], .int .i64 0])).put (some 69) (.agg #[.slice aL dL.length cL, .int .i64 0])).put (some 70) (.int .i64 0)).put (some 8) (.pointer (some ⟨b8, 0, none⟩))).put (some 9) (.int .i64 0)) wq) := ⟨by
   intro aL cL dL b8 wq HC
   refine into_G hG ?_
   rw [hA.out]
   try simp only [Act.put, zqf, zqg, zqh]
   refine lDone (by kernel_rfl) ?_
   clear hA hG
   have fa : dL.map NodeV.n = (h.lessG i).ns := HC.out.at_ 3 rfl
   have hL := nodes_read (HC.out.at_ 1 rfl) (HC.out.at_ 2 rfl)
   have hdn : dL.length = (h.lessG i).ns.length := by rw [← fa, List.length_map]
   rw [fa] at hL
   have h3' : (h.nd h.root.toNat).kind = 3 := by rw [HEH.out, HYE.out]; exact H3.out
   have hi' : i < (h.nd h.root.toNat).labels.length := by rw [HEH.out, HYE.out]; exact HIL.out
   have hAn : h.ns.length + 1 ≤ 1048576 := by rw [HNH.out]; omega
   have cl0 := less_ok Ch.out.1 h3' hi' hAn
   have sg := shut_of Cg.out.1 Cg.out.2
   have sl := less_shut Ch.out.1 h3' hi' hAn (shut_of Ch.out.1 Ch.out.2)
   have qg : subB g (h.lessG i) = true := sub_trans Cg.out.1 Ch.out.1 cl0 HS.out (less_sub Ch.out.1 h3' hi' hAn)
   have wl : (h.lessG i).weight ≤ 2097152 := by have := less_weight (i := i) (Graph.ok_of Ch.out.1); have := HWH.out; omega
   have ll : (h.lessG i).ns.length ≤ 151 := by
    have h1 := reach_len_le (lessTop h i)
    rw [← trim_len] at h1
    have h2 : (lessTop h i).ns.length = h.ns.length + 1 := top_len
    have h4 : (h.lessG i).ns.length = (lessTop h i).trim.ns.length := rfl
    rw [HNH.out] at h2
    omega
   have hb2 := below_below HB6.out HC.out.below
   have K := mays_any (some ⟨gA, oA, none⟩) aL ca cL g (h.lessG i) wq (HG.out.below hb2) hL (by have := HWG.out; omega) wl (by rw [HNG.out]; omega) (by omega) (HX.out.below hb2) Cg.out.1 cl0 sg sl
   rw [qg, HNG.out, HRG.out, ← hdn] at K
   have HML := Tre.hid K
   have p80 : wq.cell? ⟨b8, 0, none⟩ = some (.slice aL dL.length cL) := HC.out.cell 0 rfl 0 rfl
   have p81 : wq.cell? ⟨b8, 1, none⟩ = some (.int .i64 0) := HC.out.cell 0 rfl 1 rfl
   have p30 := cell_below HC.out.below P30.out
   have p31 := cell_below HC.out.below P31.out
   clear fa hL hdn h3' hi' hAn cl0 sg sl qg wl ll K hb2 hlab hyl m1 m2 hn0 hn2 hkq hlq P73 P70 PS HFG YL HIL
   have HY3 := H3
   go_wp2_with fail
   refine HML.out.mono ?_
   rintro e w7 ⟨rfl, bq⟩
   have HQ := Tre.hid (HC.out.quiet bq).below
   clear bq HML p80 p81 p30 p31 HC
   have P30 := Tre.hid (cell_below HQ.out P30.out)
   have P31 := Tre.hid (cell_below HQ.out P31.out)
   have P40 := Tre.hid (cell_below HQ.out P40.out)
   have P41 := Tre.hid (cell_below HQ.out P41.out)
   have HB7 := Tre.hid (below_below HB6.out HQ.out)
   clear HQ HB6
   have HROW : Hid (∀ W, Below w7.heap.size w7 W → Row W 5 (some ⟨gA, oA, none⟩) n (dg.flatMap NodeV.cells)) := fun W hW => ⟨by rw [cells_len, LDG.out], fun j u hu => ⟨gA, oA, rfl, cell_below (below_below HB7.out hW) (HCG.out j u hu)⟩⟩
   have HONE := Tre.hid (cells_one dg (fun d hd => ⟨w, HVG.out d hd⟩))
   obtain ⟨ni, I1, I2, I3, I4⟩ := info_parts infoN
   have J1 := Tre.hid I1
   have J2 := Tre.hid I2
   have J3 := Tre.hid I3
   have J4 := Tre.hid I4
   obtain ⟨si, K1, K2, K3, K4⟩ := info_parts infoS14
   have S1 := Tre.hid K1
   have S2 := Tre.hid K2
   have S3 := Tre.hid K3
   have S4 := Tre.hid K4
   clear I1 I2 I3 I4 K1 K2 K3 K4
   obtain ⟨ji, K1, K2, K3, K4⟩ := info_parts infoI14
   have L1 := Tre.hid K1
   have L2 := Tre.hid K2
   have L3 := Tre.hid K3
   have L4 := Tre.hid K4
   clear K1 K2 K3 K4
   go_upto_region 11 with fail
   have cS : Cond (fun w' => w'.cell? ⟨w.heap.size, 0, none⟩ = some (.slice (some ⟨gA, oA, none⟩) n ca)) := ⟨⟩
   refine cS.keep [9] ?_ (fun hH => ?_)
   ·exact P30.out
   have HC := Tre.hid (Mem.nil w7).drew
   generalize hq : World.drew _ = wq0 at HC hH ⊢
   clear hq
   refine lPv 0 (some 79) (.pointer (some ⟨w.heap.size, 0, none⟩)) (keep_of hH) ?_
   try simp only [Act.put, zqf, zqg, zqh]
   refine lTq 1 (some 80) (v := ?_) rfl ?_ hH ?_
   rotate_left
   ·intro w hSw; (try dsimp only at hSw); go_simp <;> with_reducible rfl
   try simp only [Act.put, zqf, zqg, zqh]
   refine lPv 2 (some 81) (.int .i64 (n : Int)) (keep_of hH) ?_
   refine lPv 4 (some 83) (.pointer (some ⟨w.heap.size, 0, none⟩)) (keep_of hH) ?_
   try simp only [Act.put, zqf, zqg, zqh]
   refine lTq 5 (some 84) (v := ?_) rfl ?_ hH ?_
   rotate_left
   ·intro w hSw; (try dsimp only at hSw); go_simp <;> with_reducible rfl
   try simp only [Act.put, zqf, zqg, zqh]
   try simp only [Act.put, zqf, zqg, zqh]
   refine with_G (G0 := wpAnyL _ _ _ _ _ _) ?_
   intro G hG a0 hA
   have Z0 : Kept (∀ (b82 : Nat) (a85 : Option Addr) (c85 : Nat) (b10 : Nat) (wq : World), Hid (Mem w7 wq [cellsR b10 24 #[.slice a85 n c85, .int .i64 (n : Int)], rowR 33 5 (.slice a85 n c85) n (dg.flatMap NodeV.cells)]) → G 0 (bt 10 1023) ((((a0.put (some 82) (.slice (some ⟨b82, 0, none⟩) 0 0)).put (some 85) (.slice a85 n c85)).put (some 86) (.agg #[.slice a85 n c85, .int .i64 (n : Int)])).put (some 10) (.pointer (some ⟨b10, 0, none⟩))) wq) := ⟨by
    intro b82 a85 c85 b10 wq HC
    refine into_G hG ?_
    rw [hA.out]
    try simp only [Act.put, zqf, zqg, zqh]
    refine lDone (by kernel_rfl) ?_
    clear hA hG
    have HO := Tre.hid (HC.out.allocR #[.int .i64 3, .string { data := #[] }, .slice none 0 0, .slice none 0 0, .bool false] 33)
    go_upto_region 13 with fail
    generalize hw : World.alloc _ _ = wo at HO ⊢
    generalize hb : wq.heap.size = b11 at HO ⊢
    clear hw hb HC
    have p30 := cell_below HO.out.below P30.out
    have p31 := cell_below HO.out.below P31.out
    have pX3 := cell_below (below_below HB7.out HO.out.below) X3.out
    have m3 : (0 : Int) ≤ (rg : Int) := by omega
    have m4 : (rg : Int) < (n : Int) := by have := LG.out; rw [HNG.out] at this; omega
    obtain ⟨RM, hRM⟩ : ∃ r : Res, (cellsR b10 24 #[.slice a85 n c85, .int .i64 (n : Int)]) = r := ⟨_, rfl⟩
    obtain ⟨RG, hRG⟩ : ∃ r : Res, (rowR 33 5 (.slice a85 n c85) n (dg.flatMap NodeV.cells)) = r := ⟨_, rfl⟩
    have HL0 : Hid (Mem w7 wo [rowR 9 1 (.slice none ([] : List ByteArray).length 0) ([] : List ByteArray).length (([] : List ByteArray).map Value.string), rowR 3 1 (.slice none ([] : List Int).length 0) ([] : List Int).length (([] : List Int).map (Value.int .i64)), cellsR b11 33 #[.int .i64 3, .string { data := #[] }, .slice none ([] : List Int).length 0, .slice none ([] : List ByteArray).length 0, .bool false], RM, RG]) := by
     have h := (HO.out.addNil 3 1).addNil 9 1
     rw [hRM, hRG] at h
     exact h
    have HRM := Tre.hid hRM
    have HRG' := Tre.hid hRG
    clear hRM hRG
    have PX2 : Hid (w7.cell? ⟨gA, oA + rg * 5 + 2, none⟩ = some (.slice ax X.args.length cx)) := cell_below HB7.out X2.out
    have HXK : Hid (X.kind = 3) := by show _ = _; rw [HKK.out]; exact HY3.out
    go_wp2_with fail
    clear p30 p31 pX3 HO
    go_loopw [12, 96] (fun v12 v96 wr => ∃ (k : Nat) (LS : List ByteArray) (LT : List Int) (dn : Bool) (l1 : Option Addr) (d1 : Nat) (a1 : Option Addr) (e1 : Nat), k ≤ X.labels.length ∧ v12 = .bool dn ∧ v96 = .int .i64 (k : Int) ∧ Hid (Tre.Own X.labels X.args (rg : Int) k dn LS LT) ∧ Hid (Mem w7 wr [rowR 9 1 (.slice l1 LS.length d1) LS.length (LS.map Value.string), rowR 3 1 (.slice a1 LT.length e1) LT.length (LT.map (Value.int .i64)), cellsR b11 33 #[.int .i64 3, .string { data := #[] }, .slice a1 LT.length e1, .slice l1 LS.length d1, .bool false], RM, RG]))
     (fun _ v96 _ => X.labels.length - (intOf v96).toNat)
    case atStart => exact ⟨0, [], [], false, none, 0, none, 0, Nat.zero_le _, rfl, rfl, Tre.Own.start, HL0.out⟩
    case round =>
     obtain ⟨k, LS, LT, dn, l1, d1, a1, e1, hk, rfl, rfl, hOW, HI⟩ := hrel
     by_cases hlt : k < X.labels.length
     ·obtain ⟨s, hs⟩ : ∃ s, Hid (X.labels[k]? = some s) := ⟨_, List.getElem?_eq_getElem hlt⟩
      obtain ⟨a, ha⟩ : ∃ a, Hid (X.args[k]? = some a) := ⟨_, List.getElem?_eq_getElem (by have := (HDX.out HXK.out).1; omega)⟩
      obtain ⟨bx, ox, rfl, hxc⟩ := (XL.out.below (below_below HB7.out HI.out.below)).at_ k (.string s) (by rw [List.getElem?_map, hs.out]; rfl)
      obtain ⟨ba, oa, hax⟩ := ints_some XA.out (by have := (HDX.out HXK.out).1; omega)
      have PX2 : Hid (w7.cell? ⟨gA, oA + rg * 5 + 2, none⟩ = some (.slice (some ⟨ba, oa, none⟩) X.args.length cx)) := by have h := PX2.out; rw [hax] at h; exact h
      have HPA : Hid (∀ k a, X.args[k]? = some a → w7.cell? ⟨ba, oa + k, none⟩ = some (.int .i64 a)) := fun k a h => by
       obtain ⟨b', o', e, hc⟩ := (XA.out.below HB7.out).at_ k (.int .i64 a) (by rw [List.getElem?_map, h]; rfl)
       rw [hax] at e; cases e; exact hc
      have n3 : (0 : Int) ≤ (k : Int) := by omega
      have n4 : (k : Int) < (X.labels.length : Int) := by omega
      have hol := hOW.out.len hk (HDX.out HXK.out).1.symm
      have hsl : LS.length ≤ 1048577 := by omega
      have htl : LT.length ≤ 1048577 := by omega
      by_cases hsu : s = unB
      ·have t1 : (s.toList == [117, 110, 117, 115, 117, 97, 108]) = true := by rw [hsu, un_list]; rfl
       clear hsu hol
       go_wp2_with fail
       go_ret
       exact ⟨rfl, below_below HB7.out HI.out.below⟩
      have hne : ¬ s.toList = unB.toList := fun e => hsu (toList_inj e)
      have t1 : (s.toList == [117, 110, 117, 115, 117, 97, 108]) = false := by rw [beq_eq_false_iff_ne]; exact fun e => hne (e.trans un_list.symm)
      have PA : Hid (w7.cell? ⟨ba, oa + k, none⟩ = some (.int .i64 a)) := HPA.out k a ha.out
      have HT1 := Tre.hid t1
      have HNE := Tre.hid hne
      clear hsu hne hol
      have n5 : (k : Int) < (X.args.length : Int) := by have := (HDX.out HXK.out).1; omega
      have m3 : (0 : Int) ≤ (rg : Int) := by omega
      have m4 : (rg : Int) < (n : Int) := by have := LG.out; rw [HNG.out] at this; omega
      cases dn with
      | true =>
       have HR := HI
       go_upto_region 21 with fail
       clear t1 hxc
       have HSP : Hid (∀ W, Below w7.heap.size w7 W → W.cell? ⟨b11, 3, none⟩ = some (.slice l1 LS.length d1) → W.cell? ⟨b11, 2, none⟩ = some (.slice a1 LT.length e1) → (fun w' => w'.cell? ⟨b11, 3, none⟩ = some (.slice l1 LS.length d1) ∧ w'.cell? ⟨b11, 2, none⟩ = some (.slice a1 LT.length e1) ∧ w'.cell? ⟨w.heap.size, 0, none⟩ = some (.slice (some ⟨gA, oA, none⟩) n ca) ∧ w'.cell? ⟨w.heap.size, 1, none⟩ = some (.int .i64 (rg : Int)) ∧ w'.cell? ⟨gA, oA + rg * 5 + 2, none⟩ = some (.slice (some ⟨ba, oa, none⟩) X.args.length cx) ∧ w'.cell? ⟨ba, oa + k, none⟩ = some (.int .i64 a)) W) := fun W hW h3 h2 => ⟨h3, h2, cell_below hW P30.out, cell_below hW P31.out, cell_below hW PX2.out, cell_below hW PA.out⟩
       have cS : Cond (fun w' => w'.cell? ⟨b11, 3, none⟩ = some (.slice l1 LS.length d1) ∧ w'.cell? ⟨b11, 2, none⟩ = some (.slice a1 LT.length e1) ∧ w'.cell? ⟨w.heap.size, 0, none⟩ = some (.slice (some ⟨gA, oA, none⟩) n ca) ∧ w'.cell? ⟨w.heap.size, 1, none⟩ = some (.int .i64 (rg : Int)) ∧ w'.cell? ⟨gA, oA + rg * 5 + 2, none⟩ = some (.slice (some ⟨ba, oa, none⟩) X.args.length cx) ∧ w'.cell? ⟨ba, oa + k, none⟩ = some (.int .i64 a)) := ⟨⟩
       refine cS.keep [20] ?_ (fun hH => ?_)
       ·exact HSP.out _ HR.out.drew.below (HR.out.drew.cell 2 rfl 3 rfl) (HR.out.drew.cell 2 rfl 2 rfl)
       have HC := Tre.hid HR.out.drew
       generalize hq : World.drew _ = wq0 at HC hH ⊢
       clear hq
       refine lPv 0 (some 121) (.pointer (some ⟨b11, 3, none⟩)) (keep_of hH) ?_
       try simp only [Act.put, zqf, zqg, zqh]
       refine lTq 1 (some 122) (v := ?_) rfl ?_ hH ?_
       rotate_left
       ·intro w hSw; (try dsimp only at hSw); go_simp <;> with_reducible rfl
       try simp only [Act.put, zqf, zqg, zqh]
       refine lPv 2 (some 123) (.string s) (keep_of hH) ?_
       refine lPv 5 (some 126) (.pointer (some ⟨b11, 2, none⟩)) (keep_of hH) ?_
       try simp only [Act.put, zqf, zqg, zqh]
       refine lTq 6 (some 127) (v := ?_) rfl ?_ hH ?_
       rotate_left
       ·intro w hSw; (try dsimp only at hSw); go_simp <;> with_reducible rfl
       try simp only [Act.put, zqf, zqg, zqh]
       refine lPv 7 (some 128) (.pointer (some ⟨w.heap.size, 0, none⟩)) (keep_of hH) ?_
       try simp only [Act.put, zqf, zqg, zqh]
       refine lTq 8 (some 129) (v := ?_) rfl ?_ hH ?_
       rotate_left
       ·intro w hSw; (try dsimp only at hSw); go_simp <;> with_reducible rfl
       try simp only [Act.put, zqf, zqg, zqh]
       refine lPv 9 (some 130) (.pointer (some ⟨w.heap.size, 1, none⟩)) (keep_of hH) ?_
       try simp only [Act.put, zqf, zqg, zqh]
       refine lTq 10 (some 131) (v := ?_) rfl ?_ hH ?_
       rotate_left
       ·intro w hSw; (try dsimp only at hSw); go_simp <;> with_reducible rfl
       try simp only [Act.put, zqf, zqg, zqh]
       try simp only [Act.put, zqf, zqg, zqh]
       refine lPq 11 (some 132) (v := ?_) rfl ?_ (keep_of hH) ?_
       rotate_left
       ·intro w; go_simp <;> with_reducible rfl
       refine lPv 12 (some 133) (.pointer (some ⟨gA, oA + rg * 5 + 2, none⟩)) (keep_of hH) ?_
       try simp only [Act.put, zqf, zqg, zqh]
       refine lTq 13 (some 134) (v := ?_) rfl ?_ hH ?_
       rotate_left
       ·intro w hSw; (try dsimp only at hSw); go_simp <;> with_reducible rfl
       try simp only [Act.put, zqf, zqg, zqh]
       refine lPv 14 (some 135) (.int .i64 (k : Int)) (keep_of hH) ?_
       try simp only [Act.put, zqf, zqg, zqh]
       refine lPq 15 (some 136) (v := ?_) rfl ?_ (keep_of hH) ?_
       rotate_left
       ·intro w; go_simp <;> with_reducible rfl
       try simp only [Act.put, zqf, zqg, zqh]
       refine lTq 16 (some 137) (v := ?_) rfl ?_ hH ?_
       rotate_left
       ·intro w hSw; (try dsimp only at hSw); go_simp <;> with_reducible rfl
       try simp only [Act.put, zqf, zqg, zqh]
       try simp only [Act.put, zqf, zqg, zqh]
       refine with_G (G0 := wpAnyL _ _ _ _ _ _) ?_
       intro G hG a0 hA
       have Z0 : Kept (∀ (l2 : Option Addr) (d2 : Nat) (a2 : Option Addr) (e2 : Nat) (b124 : Nat) (b138 : Nat) (wq : World), Hid (Mem w7 wq [rowR 9 1 (.slice l2 (LS.length + 1) d2) (LS.length + 1) (LS.map Value.string ++ [.string s]), rowR 3 1 (.slice a2 (LT.length + 1) e2) (LT.length + 1) (LT.map (Value.int .i64) ++ [.int .i64 a]), cellsR b11 33 #[.int .i64 3, .string { data := #[] }, .slice a2 (LT.length + 1) e2, .slice l2 (LS.length + 1) d2, .bool false], RM, RG]) → G 0 (bt 23 8388607) ((((((a0.put (some 124) (.slice (some ⟨b124, 0, none⟩) 1 1)).put (some 125) (.slice l2 (LS.length + 1) d2)).put (some 138) (.slice (some ⟨b138, 0, none⟩) 1 1)).put (some 139) (.slice a2 (LT.length + 1) e2)).put (some 140) (.pointer (some ⟨b11, 3, none⟩))).put (some 141) (.pointer (some ⟨b11, 2, none⟩))) wq) := ⟨by
        intro l2 d2 a2 e2 b124 b138 wq HC
        refine into_G hG ?_
        rw [hA.out]
        try simp only [Act.put, zqf, zqg, zqh]
        refine lDone (by kernel_rfl) ?_
        clear hA hG
        go_wp2_with fail
        go_roundw
        case rel =>
         refine ⟨k + 1, LS ++ [s], LT ++ [a], true, l2, d2, a2, e2, by omega, rfl, by go_num, hOW.out.on hs.out ha.out, ?_⟩
         show Mem _ _ _
         rw [List.length_append, List.length_append, List.map_append, List.map_append]
         exact HC.out
        case measure => simp [intOf]; omega
       ⟩
       have Z1 : Kept (∀ (l2 : Option Addr) (d2 : Nat) (a2 : Option Addr) (e2 : Nat) (b124 : Nat) (b138 : Nat) (wq : World), Hid (Mem w7 wq [rowR 9 1 (.slice l2 (LS.length + 1) d2) (LS.length + 1) (LS.map Value.string ++ [.string s]), rowR 3 1 (.slice a2 (LT.length + 1) e2) (LT.length + 1) (LT.map (Value.int .i64) ++ [.int .i64 a]), cellsR b11 33 #[.int .i64 3, .string { data := #[] }, .slice a1 LT.length e1, .slice l2 (LS.length + 1) d2, .bool false], RM, RG]) → G 1 (bt 23 4194303) ((((((a0.put (some 124) (.slice (some ⟨b124, 0, none⟩) 1 1)).put (some 125) (.slice l2 (LS.length + 1) d2)).put (some 138) (.slice (some ⟨b138, 0, none⟩) 1 1)).put (some 139) (.slice a2 (LT.length + 1) e2)).put (some 140) (.pointer (some ⟨b11, 3, none⟩))).put (some 141) (.pointer (some ⟨b11, 2, none⟩))) wq) := ⟨by
        intro l2 d2 a2 e2 b124 b138 wq HC
        refine into_G hG ?_
        rw [hA.out]
        try simp only [Act.put, zqf, zqg, zqh]
        refine lOne 22 (by kernel_rfl) ?_
        ·
         refine (LFall.op (by kernel_rfl) (fun K hK => ?_))
         have z0 := HC.out.free 2 rfl 2
         obtain ⟨y0, y1, y2, y3, y4⟩ := five HC.out 2 rfl
         have HN := Tre.hid (HC.out.setCell 2 rfl 2 (.slice a2 (LT.length + 1) e2))
         go_simp
         clear z0 y0 y1 y2 y3 y4
         generalize hw : World.setCell _ ⟨b11, 2, none⟩ _ = wr at HN ⊢
         clear hw
         refine hK.out _ _ ?_
         exact outof_G hG (Z0.out l2 d2 a2 e2 b124 b138 wr HN) (by kernel_rfl) (by rw [hA.out]; try kernel_rfl)
       ⟩
       have Z2 : Kept (∀ (l2 : Option Addr) (d2 : Nat) (a2 : Option Addr) (e2 : Nat) (b124 : Nat) (b138 : Nat) (wq : World), Hid (Mem w7 wq [rowR 9 1 (.slice l2 (LS.length + 1) d2) (LS.length + 1) (LS.map Value.string ++ [.string s]), rowR 3 1 (.slice a2 (LT.length + 1) e2) (LT.length + 1) (LT.map (Value.int .i64) ++ [.int .i64 a]), cellsR b11 33 #[.int .i64 3, .string { data := #[] }, .slice a1 LT.length e1, .slice l1 LS.length d1, .bool false], RM, RG]) → G 3 (bt 23 1048575) (((((a0.put (some 124) (.slice (some ⟨b124, 0, none⟩) 1 1)).put (some 125) (.slice l2 (LS.length + 1) d2)).put (some 138) (.slice (some ⟨b138, 0, none⟩) 1 1)).put (some 139) (.slice a2 (LT.length + 1) e2)).put (some 140) (.pointer (some ⟨b11, 3, none⟩))) wq) := ⟨by
        intro l2 d2 a2 e2 b124 b138 wq HC
        refine into_G hG ?_
        rw [hA.out]
        try simp only [Act.put, zqf, zqg, zqh]
        have hH := cS.is (w := wq) (HSP.out _ HC.out.below (HC.out.cell 2 rfl 3 rfl) (HC.out.cell 2 rfl 2 rfl))
        refine lOne 20 (by kernel_rfl) ?_
        ·
         refine (LFall.op (by kernel_rfl) (fun K hK => ?_))
         have z0 := HC.out.free 2 rfl 3
         obtain ⟨y0, y1, y2, y3, y4⟩ := five HC.out 2 rfl
         have HN := Tre.hid (HC.out.setCell 2 rfl 3 (.slice l2 (LS.length + 1) d2))
         go_simp
         clear z0 y0 y1 y2 y3 y4
         generalize hw : World.setCell _ ⟨b11, 3, none⟩ _ = wr at HN ⊢
         clear hw
         refine hK.out _ _ ?_
         refine lPv 21 (some 141) (.pointer (some ⟨b11, 2, none⟩)) (keep_fell (by kernel_rfl)) ?_
         exact outof_G hG (Z1.out l2 d2 a2 e2 b124 b138 wr HN) (by kernel_rfl) (by rw [hA.out]; try kernel_rfl)
       ⟩
       have Z3 : Kept (∀ (l2 : Option Addr) (d2 : Nat) (b138 : Nat) (b124 : Nat) (wq : World), Hid (Mem w7 wq [rowR 3 1 (.slice (some ⟨b138, 0, none⟩) 1 1) 1 [.int .i64 a], rowR 9 1 (.slice l2 (LS.length + 1) d2) (LS.length + 1) (LS.map Value.string ++ [.string s]), rowR 3 1 (.slice a1 LT.length e1) LT.length (LT.map (Value.int .i64)), cellsR b11 33 #[.int .i64 3, .string { data := #[] }, .slice a1 LT.length e1, .slice l1 LS.length d1, .bool false], RM, RG]) → G 4 (bt 23 786431) ((((a0.put (some 124) (.slice (some ⟨b124, 0, none⟩) 1 1)).put (some 125) (.slice l2 (LS.length + 1) d2)).put (some 138) (.slice (some ⟨b138, 0, none⟩) 1 1)).put (some 140) (.pointer (some ⟨b11, 3, none⟩))) wq) := ⟨by
        intro l2 d2 b138 b124 wq HC
        refine into_G hG ?_
        rw [hA.out]
        have hH := cS.is (w := wq) (HSP.out _ HC.out.below (HC.out.cell 3 rfl 3 rfl) (HC.out.cell 3 rfl 2 rfl))
        refine lOne 18 (by kernel_rfl) ?_
        ·
         refine LStep.app (some 139) (.tmp 127) (.tmp 138) 30 (by kernel_rfl) 3 ji _ 1 8 Tryz.underlying30 L1.out L2.out L3.out L4.out rfl (by omega) (.slice a1 LT.length e1) LT.length (LT.map (Value.int .i64)) (by kernel_rfl) (HC.out.row 2 rfl) (some ⟨b138, 0, none⟩) 1 1 [.int .i64 a] (by kernel_rfl) (nrow1 (HC.out.row 0 rfl)) (by simp [Value.oneCell']) (by unfold maxLen; omega) (by omega) ?_
         intro v' wr hown4 hgrow4 hat4
         have M4 := HC.out.grow 2 rfl hgrow4 hown4 hat4
         obtain ⟨a2, e2, rfl, _⟩ := M4.val 2 rfl
         have HN := Tre.hid (M4.del 0)
         clear M4 hown4 hgrow4 hat4
         refine ⟨HSP.out _ HN.out.below (HN.out.cell 2 rfl 3 rfl) (HN.out.cell 2 rfl 2 rfl), fun hH2 => ?_⟩
         exact outof_G hG (Z2.out l2 d2 a2 e2 b124 b138 wr HN) (by kernel_rfl) (by rw [hA.out]; try kernel_rfl)
       ⟩
       have Z4 : Kept (∀ (l2 : Option Addr) (d2 : Nat) (b124 : Nat) (wq : World), Hid (Mem w7 wq [rowR 9 1 (.slice l2 (LS.length + 1) d2) (LS.length + 1) (LS.map Value.string ++ [.string s]), rowR 3 1 (.slice a1 LT.length e1) LT.length (LT.map (Value.int .i64)), cellsR b11 33 #[.int .i64 3, .string { data := #[] }, .slice a1 LT.length e1, .slice l1 LS.length d1, .bool false], RM, RG]) → G 5 (bt 23 655359) (((a0.put (some 124) (.slice (some ⟨b124, 0, none⟩) 1 1)).put (some 125) (.slice l2 (LS.length + 1) d2)).put (some 140) (.pointer (some ⟨b11, 3, none⟩))) wq) := ⟨by
        intro l2 d2 b124 wq HC
        refine into_G hG ?_
        rw [hA.out]
        have hH := cS.is (w := wq) (HSP.out _ HC.out.below (HC.out.cell 2 rfl 3 rfl) (HC.out.cell 2 rfl 2 rfl))
        refine lOne 17 (by kernel_rfl) ?_
        ·
         have HN := Tre.hid (HC.out.allocRow #[.int .i64 a] 3 1 1 (by unfold maxLen; omega) rfl)
         have hH2 := cS.is (w := (wq.alloc (.cells #[.int .i64 a] 3))) (HSP.out _ HN.out.below (HN.out.cell 3 rfl 3 rfl) (HN.out.cell 3 rfl 2 rfl))
         refine LStep.made (some 138) (.slice (some ⟨wq.heap.size, 0, none⟩) 1 1) _ (by kernel_rfl) (by kernel_rfl) hH2 ?_
         exact outof_G hG (Z3.out l2 d2 wq.heap.size b124 _ HN) (by kernel_rfl) (by rw [hA.out]; try kernel_rfl)
       ⟩
       have Z5 : Kept (∀ (b124 : Nat) (b138 : Nat) (wq : World), Hid (Mem w7 wq [rowR 9 1 (.slice (some ⟨b124, 0, none⟩) 1 1) 1 [.string s], rowR 3 1 (.slice (some ⟨b138, 0, none⟩) 1 1) 1 [.int .i64 a], rowR 9 1 (.slice l1 LS.length d1) LS.length (LS.map Value.string), rowR 3 1 (.slice a1 LT.length e1) LT.length (LT.map (Value.int .i64)), cellsR b11 33 #[.int .i64 3, .string { data := #[] }, .slice a1 LT.length e1, .slice l1 LS.length d1, .bool false], RM, RG]) → G 6 (bt 23 262127) ((a0.put (some 124) (.slice (some ⟨b124, 0, none⟩) 1 1)).put (some 138) (.slice (some ⟨b138, 0, none⟩) 1 1)) wq) := ⟨by
        intro b124 b138 wq HC
        refine into_G hG ?_
        rw [hA.out]
        have hH := cS.is (w := wq) (HSP.out _ HC.out.below (HC.out.cell 4 rfl 3 rfl) (HC.out.cell 4 rfl 2 rfl))
        refine lOne 4 (by kernel_rfl) ?_
        ·
         refine LStep.app (some 125) (.tmp 122) (.tmp 124) 31 (by kernel_rfl) 9 si _ 1 16 Tryz.underlying31 S1.out S2.out S3.out S4.out rfl (by omega) (.slice l1 LS.length d1) LS.length (LS.map Value.string) (by kernel_rfl) (HC.out.row 2 rfl) (some ⟨b124, 0, none⟩) 1 1 [.string s] (by kernel_rfl) (nrow1 (HC.out.row 0 rfl)) (by simp [Value.oneCell']) (by unfold maxLen; omega) (by omega) ?_
         intro v' wr hown4 hgrow4 hat4
         have M4 := HC.out.grow 2 rfl hgrow4 hown4 hat4
         obtain ⟨l2, d2, rfl, _⟩ := M4.val 2 rfl
         have HN := Tre.hid (M4.del 0)
         clear M4 hown4 hgrow4 hat4
         refine ⟨HSP.out _ HN.out.below (HN.out.cell 3 rfl 3 rfl) (HN.out.cell 3 rfl 2 rfl), fun hH2 => ?_⟩
         refine lPv 19 (some 140) (.pointer (some ⟨b11, 3, none⟩)) (keep_of hH2) ?_
         exact outof_G hG (Z3.out l2 d2 b138 b124 wr HN) (by kernel_rfl) (by rw [hA.out]; try kernel_rfl)
       ⟩
       have Z6 : Kept (∀ (b124 : Nat) (wq : World), Hid (Mem w7 wq [rowR 9 1 (.slice (some ⟨b124, 0, none⟩) 1 1) 1 [.string s], rowR 9 1 (.slice l1 LS.length d1) LS.length (LS.map Value.string), rowR 3 1 (.slice a1 LT.length e1) LT.length (LT.map (Value.int .i64)), cellsR b11 33 #[.int .i64 3, .string { data := #[] }, .slice a1 LT.length e1, .slice l1 LS.length d1, .bool false], RM, RG]) → G 7 (bt 23 131055) (a0.put (some 124) (.slice (some ⟨b124, 0, none⟩) 1 1)) wq) := ⟨by
        intro b124 wq HC
        refine into_G hG ?_
        rw [hA.out]
        have hH := cS.is (w := wq) (HSP.out _ HC.out.below (HC.out.cell 3 rfl 3 rfl) (HC.out.cell 3 rfl 2 rfl))
        refine lTwo 4 17 (by kernel_rfl) ?_ ?_
        ·
         refine LStep.app (some 125) (.tmp 122) (.tmp 124) 31 (by kernel_rfl) 9 si _ 1 16 Tryz.underlying31 S1.out S2.out S3.out S4.out rfl (by omega) (.slice l1 LS.length d1) LS.length (LS.map Value.string) (by kernel_rfl) (HC.out.row 1 rfl) (some ⟨b124, 0, none⟩) 1 1 [.string s] (by kernel_rfl) (nrow1 (HC.out.row 0 rfl)) (by simp [Value.oneCell']) (by unfold maxLen; omega) (by omega) ?_
         intro v' wr hown4 hgrow4 hat4
         have M4 := HC.out.grow 1 rfl hgrow4 hown4 hat4
         obtain ⟨l2, d2, rfl, _⟩ := M4.val 1 rfl
         have HN := Tre.hid (M4.del 0)
         clear M4 hown4 hgrow4 hat4
         refine ⟨HSP.out _ HN.out.below (HN.out.cell 2 rfl 3 rfl) (HN.out.cell 2 rfl 2 rfl), fun hH2 => ?_⟩
         refine lPv 19 (some 140) (.pointer (some ⟨b11, 3, none⟩)) (keep_of hH2) ?_
         exact outof_G hG (Z4.out l2 d2 b124 wr HN) (by kernel_rfl) (by rw [hA.out]; try kernel_rfl)
        ·
         have HN := Tre.hid (HC.out.allocRow #[.int .i64 a] 3 1 1 (by unfold maxLen; omega) rfl)
         have HC := Tre.hid ((HN.out.front 0 rfl).front 1 rfl)
         clear HN
         have hH2 := cS.is (w := (wq.alloc (.cells #[.int .i64 a] 3))) (HSP.out _ HC.out.below (HC.out.cell 4 rfl 3 rfl) (HC.out.cell 4 rfl 2 rfl))
         refine LStep.made (some 138) (.slice (some ⟨wq.heap.size, 0, none⟩) 1 1) _ (by kernel_rfl) (by kernel_rfl) hH2 ?_
         exact outof_G hG (Z5.out b124 wq.heap.size _ HC) (by kernel_rfl) (by rw [hA.out]; try kernel_rfl)
       ⟩
       have Z7 : Kept (∀ (b138 : Nat) (wq : World), Hid (Mem w7 wq [rowR 3 1 (.slice (some ⟨b138, 0, none⟩) 1 1) 1 [.int .i64 a], rowR 9 1 (.slice l1 LS.length d1) LS.length (LS.map Value.string), rowR 3 1 (.slice a1 LT.length e1) LT.length (LT.map (Value.int .i64)), cellsR b11 33 #[.int .i64 3, .string { data := #[] }, .slice a1 LT.length e1, .slice l1 LS.length d1, .bool false], RM, RG]) → G 7 (bt 23 262119) (a0.put (some 138) (.slice (some ⟨b138, 0, none⟩) 1 1)) wq) := ⟨by
        intro b138 wq HC
        refine into_G hG ?_
        rw [hA.out]
        have hH := cS.is (w := wq) (HSP.out _ HC.out.below (HC.out.cell 3 rfl 3 rfl) (HC.out.cell 3 rfl 2 rfl))
        refine lOne 3 (by kernel_rfl) ?_
        ·
         have HN := Tre.hid (HC.out.allocRow #[.string s] 9 1 1 (by unfold maxLen; omega) rfl)
         have hH2 := cS.is (w := (wq.alloc (.cells #[.string s] 9))) (HSP.out _ HN.out.below (HN.out.cell 4 rfl 3 rfl) (HN.out.cell 4 rfl 2 rfl))
         refine LStep.made (some 124) (.slice (some ⟨wq.heap.size, 0, none⟩) 1 1) _ (by kernel_rfl) (by kernel_rfl) hH2 ?_
         exact outof_G hG (Z5.out wq.heap.size b138 _ HN) (by kernel_rfl) (by rw [hA.out]; try kernel_rfl)
       ⟩
       have Z8 : Kept (∀ (wq : World), Hid (Mem w7 wq [rowR 9 1 (.slice l1 LS.length d1) LS.length (LS.map Value.string), rowR 3 1 (.slice a1 LT.length e1) LT.length (LT.map (Value.int .i64)), cellsR b11 33 #[.int .i64 3, .string { data := #[] }, .slice a1 LT.length e1, .slice l1 LS.length d1, .bool false], RM, RG]) → G 8 (bt 23 131047) (a0) wq) := ⟨by
        intro  wq HC
        refine into_G hG ?_
        rw [hA.out]
        have hH := cS.is (w := wq) (HSP.out _ HC.out.below (HC.out.cell 2 rfl 3 rfl) (HC.out.cell 2 rfl 2 rfl))
        refine lTwo 3 17 (by kernel_rfl) ?_ ?_
        ·
         have HN := Tre.hid (HC.out.allocRow #[.string s] 9 1 1 (by unfold maxLen; omega) rfl)
         have hH2 := cS.is (w := (wq.alloc (.cells #[.string s] 9))) (HSP.out _ HN.out.below (HN.out.cell 3 rfl 3 rfl) (HN.out.cell 3 rfl 2 rfl))
         refine LStep.made (some 124) (.slice (some ⟨wq.heap.size, 0, none⟩) 1 1) _ (by kernel_rfl) (by kernel_rfl) hH2 ?_
         exact outof_G hG (Z6.out wq.heap.size _ HN) (by kernel_rfl) (by rw [hA.out]; try kernel_rfl)
        ·
         have HN := Tre.hid (HC.out.allocRow #[.int .i64 a] 3 1 1 (by unfold maxLen; omega) rfl)
         have hH2 := cS.is (w := (wq.alloc (.cells #[.int .i64 a] 3))) (HSP.out _ HN.out.below (HN.out.cell 3 rfl 3 rfl) (HN.out.cell 3 rfl 2 rfl))
         refine LStep.made (some 138) (.slice (some ⟨wq.heap.size, 0, none⟩) 1 1) _ (by kernel_rfl) (by kernel_rfl) hH2 ?_
         exact outof_G hG (Z7.out wq.heap.size _ HN) (by kernel_rfl) (by rw [hA.out]; try kernel_rfl)
       ⟩
       exact Z8.out  wq0 HC
      | false =>
       by_cases hls : Op.bytesLess s.toList [117, 110, 117, 115, 117, 97, 108] = true
       ·have HLS : Hid (Op.bytesLess s.toList unB.toList = true) := by show _ = _; rw [un_list]; exact hls
        have HR := HI
        go_upto_region 21 with fail
        clear t1 hxc hls
        have HSP : Hid (∀ W, Below w7.heap.size w7 W → W.cell? ⟨b11, 3, none⟩ = some (.slice l1 LS.length d1) → W.cell? ⟨b11, 2, none⟩ = some (.slice a1 LT.length e1) → (fun w' => w'.cell? ⟨b11, 3, none⟩ = some (.slice l1 LS.length d1) ∧ w'.cell? ⟨b11, 2, none⟩ = some (.slice a1 LT.length e1) ∧ w'.cell? ⟨w.heap.size, 0, none⟩ = some (.slice (some ⟨gA, oA, none⟩) n ca) ∧ w'.cell? ⟨w.heap.size, 1, none⟩ = some (.int .i64 (rg : Int)) ∧ w'.cell? ⟨gA, oA + rg * 5 + 2, none⟩ = some (.slice (some ⟨ba, oa, none⟩) X.args.length cx) ∧ w'.cell? ⟨ba, oa + k, none⟩ = some (.int .i64 a)) W) := fun W hW h3 h2 => ⟨h3, h2, cell_below hW P30.out, cell_below hW P31.out, cell_below hW PX2.out, cell_below hW PA.out⟩
        have cS : Cond (fun w' => w'.cell? ⟨b11, 3, none⟩ = some (.slice l1 LS.length d1) ∧ w'.cell? ⟨b11, 2, none⟩ = some (.slice a1 LT.length e1) ∧ w'.cell? ⟨w.heap.size, 0, none⟩ = some (.slice (some ⟨gA, oA, none⟩) n ca) ∧ w'.cell? ⟨w.heap.size, 1, none⟩ = some (.int .i64 (rg : Int)) ∧ w'.cell? ⟨gA, oA + rg * 5 + 2, none⟩ = some (.slice (some ⟨ba, oa, none⟩) X.args.length cx) ∧ w'.cell? ⟨ba, oa + k, none⟩ = some (.int .i64 a)) := ⟨⟩
        refine cS.keep [20] ?_ (fun hH => ?_)
        ·exact HSP.out _ HR.out.drew.below (HR.out.drew.cell 2 rfl 3 rfl) (HR.out.drew.cell 2 rfl 2 rfl)
        have HC := Tre.hid HR.out.drew
        generalize hq : World.drew _ = wq0 at HC hH ⊢
        clear hq
        refine lPv 0 (some 121) (.pointer (some ⟨b11, 3, none⟩)) (keep_of hH) ?_
        try simp only [Act.put, zqf, zqg, zqh]
        refine lTq 1 (some 122) (v := ?_) rfl ?_ hH ?_
        rotate_left
        ·intro w hSw; (try dsimp only at hSw); go_simp <;> with_reducible rfl
        try simp only [Act.put, zqf, zqg, zqh]
        refine lPv 2 (some 123) (.string s) (keep_of hH) ?_
        refine lPv 5 (some 126) (.pointer (some ⟨b11, 2, none⟩)) (keep_of hH) ?_
        try simp only [Act.put, zqf, zqg, zqh]
        refine lTq 6 (some 127) (v := ?_) rfl ?_ hH ?_
        rotate_left
        ·intro w hSw; (try dsimp only at hSw); go_simp <;> with_reducible rfl
        try simp only [Act.put, zqf, zqg, zqh]
        refine lPv 7 (some 128) (.pointer (some ⟨w.heap.size, 0, none⟩)) (keep_of hH) ?_
        try simp only [Act.put, zqf, zqg, zqh]
        refine lTq 8 (some 129) (v := ?_) rfl ?_ hH ?_
        rotate_left
        ·intro w hSw; (try dsimp only at hSw); go_simp <;> with_reducible rfl
        try simp only [Act.put, zqf, zqg, zqh]
        refine lPv 9 (some 130) (.pointer (some ⟨w.heap.size, 1, none⟩)) (keep_of hH) ?_
        try simp only [Act.put, zqf, zqg, zqh]
        refine lTq 10 (some 131) (v := ?_) rfl ?_ hH ?_
        rotate_left
        ·intro w hSw; (try dsimp only at hSw); go_simp <;> with_reducible rfl
        try simp only [Act.put, zqf, zqg, zqh]
        try simp only [Act.put, zqf, zqg, zqh]
        refine lPq 11 (some 132) (v := ?_) rfl ?_ (keep_of hH) ?_
        rotate_left
        ·intro w; go_simp <;> with_reducible rfl
        refine lPv 12 (some 133) (.pointer (some ⟨gA, oA + rg * 5 + 2, none⟩)) (keep_of hH) ?_
        try simp only [Act.put, zqf, zqg, zqh]
        refine lTq 13 (some 134) (v := ?_) rfl ?_ hH ?_
        rotate_left
        ·intro w hSw; (try dsimp only at hSw); go_simp <;> with_reducible rfl
        try simp only [Act.put, zqf, zqg, zqh]
        refine lPv 14 (some 135) (.int .i64 (k : Int)) (keep_of hH) ?_
        try simp only [Act.put, zqf, zqg, zqh]
        refine lPq 15 (some 136) (v := ?_) rfl ?_ (keep_of hH) ?_
        rotate_left
        ·intro w; go_simp <;> with_reducible rfl
        try simp only [Act.put, zqf, zqg, zqh]
        refine lTq 16 (some 137) (v := ?_) rfl ?_ hH ?_
        rotate_left
        ·intro w hSw; (try dsimp only at hSw); go_simp <;> with_reducible rfl
        try simp only [Act.put, zqf, zqg, zqh]
        try simp only [Act.put, zqf, zqg, zqh]
        refine with_G (G0 := wpAnyL _ _ _ _ _ _) ?_
        intro G hG a0 hA
        have Z0 : Kept (∀ (l2 : Option Addr) (d2 : Nat) (a2 : Option Addr) (e2 : Nat) (b124 : Nat) (b138 : Nat) (wq : World), Hid (Mem w7 wq [rowR 9 1 (.slice l2 (LS.length + 1) d2) (LS.length + 1) (LS.map Value.string ++ [.string s]), rowR 3 1 (.slice a2 (LT.length + 1) e2) (LT.length + 1) (LT.map (Value.int .i64) ++ [.int .i64 a]), cellsR b11 33 #[.int .i64 3, .string { data := #[] }, .slice a2 (LT.length + 1) e2, .slice l2 (LS.length + 1) d2, .bool false], RM, RG]) → G 0 (bt 23 8388607) ((((((a0.put (some 124) (.slice (some ⟨b124, 0, none⟩) 1 1)).put (some 125) (.slice l2 (LS.length + 1) d2)).put (some 138) (.slice (some ⟨b138, 0, none⟩) 1 1)).put (some 139) (.slice a2 (LT.length + 1) e2)).put (some 140) (.pointer (some ⟨b11, 3, none⟩))).put (some 141) (.pointer (some ⟨b11, 2, none⟩))) wq) := ⟨by
         intro l2 d2 a2 e2 b124 b138 wq HC
         refine into_G hG ?_
         rw [hA.out]
         try simp only [Act.put, zqf, zqg, zqh]
         refine lDone (by kernel_rfl) ?_
         clear hA hG
         go_wp2_with fail
         go_roundw
         case rel =>
          refine ⟨k + 1, LS ++ [s], LT ++ [a], false, l2, d2, a2, e2, by omega, rfl, by go_num, hOW.out.less hs.out ha.out HLS.out, ?_⟩
          show Mem _ _ _
          rw [List.length_append, List.length_append, List.map_append, List.map_append]
          exact HC.out
         case measure => simp [intOf]; omega
        ⟩
        have Z1 : Kept (∀ (l2 : Option Addr) (d2 : Nat) (a2 : Option Addr) (e2 : Nat) (b124 : Nat) (b138 : Nat) (wq : World), Hid (Mem w7 wq [rowR 9 1 (.slice l2 (LS.length + 1) d2) (LS.length + 1) (LS.map Value.string ++ [.string s]), rowR 3 1 (.slice a2 (LT.length + 1) e2) (LT.length + 1) (LT.map (Value.int .i64) ++ [.int .i64 a]), cellsR b11 33 #[.int .i64 3, .string { data := #[] }, .slice a1 LT.length e1, .slice l2 (LS.length + 1) d2, .bool false], RM, RG]) → G 1 (bt 23 4194303) ((((((a0.put (some 124) (.slice (some ⟨b124, 0, none⟩) 1 1)).put (some 125) (.slice l2 (LS.length + 1) d2)).put (some 138) (.slice (some ⟨b138, 0, none⟩) 1 1)).put (some 139) (.slice a2 (LT.length + 1) e2)).put (some 140) (.pointer (some ⟨b11, 3, none⟩))).put (some 141) (.pointer (some ⟨b11, 2, none⟩))) wq) := ⟨by
         intro l2 d2 a2 e2 b124 b138 wq HC
         refine into_G hG ?_
         rw [hA.out]
         try simp only [Act.put, zqf, zqg, zqh]
         refine lOne 22 (by kernel_rfl) ?_
         ·
          refine (LFall.op (by kernel_rfl) (fun K hK => ?_))
          have z0 := HC.out.free 2 rfl 2
          obtain ⟨y0, y1, y2, y3, y4⟩ := five HC.out 2 rfl
          have HN := Tre.hid (HC.out.setCell 2 rfl 2 (.slice a2 (LT.length + 1) e2))
          go_simp
          clear z0 y0 y1 y2 y3 y4
          generalize hw : World.setCell _ ⟨b11, 2, none⟩ _ = wr at HN ⊢
          clear hw
          refine hK.out _ _ ?_
          exact outof_G hG (Z0.out l2 d2 a2 e2 b124 b138 wr HN) (by kernel_rfl) (by rw [hA.out]; try kernel_rfl)
        ⟩
        have Z2 : Kept (∀ (l2 : Option Addr) (d2 : Nat) (a2 : Option Addr) (e2 : Nat) (b124 : Nat) (b138 : Nat) (wq : World), Hid (Mem w7 wq [rowR 9 1 (.slice l2 (LS.length + 1) d2) (LS.length + 1) (LS.map Value.string ++ [.string s]), rowR 3 1 (.slice a2 (LT.length + 1) e2) (LT.length + 1) (LT.map (Value.int .i64) ++ [.int .i64 a]), cellsR b11 33 #[.int .i64 3, .string { data := #[] }, .slice a1 LT.length e1, .slice l1 LS.length d1, .bool false], RM, RG]) → G 3 (bt 23 1048575) (((((a0.put (some 124) (.slice (some ⟨b124, 0, none⟩) 1 1)).put (some 125) (.slice l2 (LS.length + 1) d2)).put (some 138) (.slice (some ⟨b138, 0, none⟩) 1 1)).put (some 139) (.slice a2 (LT.length + 1) e2)).put (some 140) (.pointer (some ⟨b11, 3, none⟩))) wq) := ⟨by
         intro l2 d2 a2 e2 b124 b138 wq HC
         refine into_G hG ?_
         rw [hA.out]
         try simp only [Act.put, zqf, zqg, zqh]
         have hH := cS.is (w := wq) (HSP.out _ HC.out.below (HC.out.cell 2 rfl 3 rfl) (HC.out.cell 2 rfl 2 rfl))
         refine lOne 20 (by kernel_rfl) ?_
         ·
          refine (LFall.op (by kernel_rfl) (fun K hK => ?_))
          have z0 := HC.out.free 2 rfl 3
          obtain ⟨y0, y1, y2, y3, y4⟩ := five HC.out 2 rfl
          have HN := Tre.hid (HC.out.setCell 2 rfl 3 (.slice l2 (LS.length + 1) d2))
          go_simp
          clear z0 y0 y1 y2 y3 y4
          generalize hw : World.setCell _ ⟨b11, 3, none⟩ _ = wr at HN ⊢
          clear hw
          refine hK.out _ _ ?_
          refine lPv 21 (some 141) (.pointer (some ⟨b11, 2, none⟩)) (keep_fell (by kernel_rfl)) ?_
          exact outof_G hG (Z1.out l2 d2 a2 e2 b124 b138 wr HN) (by kernel_rfl) (by rw [hA.out]; try kernel_rfl)
        ⟩
        have Z3 : Kept (∀ (l2 : Option Addr) (d2 : Nat) (b138 : Nat) (b124 : Nat) (wq : World), Hid (Mem w7 wq [rowR 3 1 (.slice (some ⟨b138, 0, none⟩) 1 1) 1 [.int .i64 a], rowR 9 1 (.slice l2 (LS.length + 1) d2) (LS.length + 1) (LS.map Value.string ++ [.string s]), rowR 3 1 (.slice a1 LT.length e1) LT.length (LT.map (Value.int .i64)), cellsR b11 33 #[.int .i64 3, .string { data := #[] }, .slice a1 LT.length e1, .slice l1 LS.length d1, .bool false], RM, RG]) → G 4 (bt 23 786431) ((((a0.put (some 124) (.slice (some ⟨b124, 0, none⟩) 1 1)).put (some 125) (.slice l2 (LS.length + 1) d2)).put (some 138) (.slice (some ⟨b138, 0, none⟩) 1 1)).put (some 140) (.pointer (some ⟨b11, 3, none⟩))) wq) := ⟨by
         intro l2 d2 b138 b124 wq HC
         refine into_G hG ?_
         rw [hA.out]
         have hH := cS.is (w := wq) (HSP.out _ HC.out.below (HC.out.cell 3 rfl 3 rfl) (HC.out.cell 3 rfl 2 rfl))
         refine lOne 18 (by kernel_rfl) ?_
         ·
          refine LStep.app (some 139) (.tmp 127) (.tmp 138) 30 (by kernel_rfl) 3 ji _ 1 8 Tryz.underlying30 L1.out L2.out L3.out L4.out rfl (by omega) (.slice a1 LT.length e1) LT.length (LT.map (Value.int .i64)) (by kernel_rfl) (HC.out.row 2 rfl) (some ⟨b138, 0, none⟩) 1 1 [.int .i64 a] (by kernel_rfl) (nrow1 (HC.out.row 0 rfl)) (by simp [Value.oneCell']) (by unfold maxLen; omega) (by omega) ?_
          intro v' wr hown4 hgrow4 hat4
          have M4 := HC.out.grow 2 rfl hgrow4 hown4 hat4
          obtain ⟨a2, e2, rfl, _⟩ := M4.val 2 rfl
          have HN := Tre.hid (M4.del 0)
          clear M4 hown4 hgrow4 hat4
          refine ⟨HSP.out _ HN.out.below (HN.out.cell 2 rfl 3 rfl) (HN.out.cell 2 rfl 2 rfl), fun hH2 => ?_⟩
          exact outof_G hG (Z2.out l2 d2 a2 e2 b124 b138 wr HN) (by kernel_rfl) (by rw [hA.out]; try kernel_rfl)
        ⟩
        have Z4 : Kept (∀ (l2 : Option Addr) (d2 : Nat) (b124 : Nat) (wq : World), Hid (Mem w7 wq [rowR 9 1 (.slice l2 (LS.length + 1) d2) (LS.length + 1) (LS.map Value.string ++ [.string s]), rowR 3 1 (.slice a1 LT.length e1) LT.length (LT.map (Value.int .i64)), cellsR b11 33 #[.int .i64 3, .string { data := #[] }, .slice a1 LT.length e1, .slice l1 LS.length d1, .bool false], RM, RG]) → G 5 (bt 23 655359) (((a0.put (some 124) (.slice (some ⟨b124, 0, none⟩) 1 1)).put (some 125) (.slice l2 (LS.length + 1) d2)).put (some 140) (.pointer (some ⟨b11, 3, none⟩))) wq) := ⟨by
         intro l2 d2 b124 wq HC
         refine into_G hG ?_
         rw [hA.out]
         have hH := cS.is (w := wq) (HSP.out _ HC.out.below (HC.out.cell 2 rfl 3 rfl) (HC.out.cell 2 rfl 2 rfl))
         refine lOne 17 (by kernel_rfl) ?_
         ·
          have HN := Tre.hid (HC.out.allocRow #[.int .i64 a] 3 1 1 (by unfold maxLen; omega) rfl)
          have hH2 := cS.is (w := (wq.alloc (.cells #[.int .i64 a] 3))) (HSP.out _ HN.out.below (HN.out.cell 3 rfl 3 rfl) (HN.out.cell 3 rfl 2 rfl))
          refine LStep.made (some 138) (.slice (some ⟨wq.heap.size, 0, none⟩) 1 1) _ (by kernel_rfl) (by kernel_rfl) hH2 ?_
          exact outof_G hG (Z3.out l2 d2 wq.heap.size b124 _ HN) (by kernel_rfl) (by rw [hA.out]; try kernel_rfl)
        ⟩
        have Z5 : Kept (∀ (b124 : Nat) (b138 : Nat) (wq : World), Hid (Mem w7 wq [rowR 9 1 (.slice (some ⟨b124, 0, none⟩) 1 1) 1 [.string s], rowR 3 1 (.slice (some ⟨b138, 0, none⟩) 1 1) 1 [.int .i64 a], rowR 9 1 (.slice l1 LS.length d1) LS.length (LS.map Value.string), rowR 3 1 (.slice a1 LT.length e1) LT.length (LT.map (Value.int .i64)), cellsR b11 33 #[.int .i64 3, .string { data := #[] }, .slice a1 LT.length e1, .slice l1 LS.length d1, .bool false], RM, RG]) → G 6 (bt 23 262127) ((a0.put (some 124) (.slice (some ⟨b124, 0, none⟩) 1 1)).put (some 138) (.slice (some ⟨b138, 0, none⟩) 1 1)) wq) := ⟨by
         intro b124 b138 wq HC
         refine into_G hG ?_
         rw [hA.out]
         have hH := cS.is (w := wq) (HSP.out _ HC.out.below (HC.out.cell 4 rfl 3 rfl) (HC.out.cell 4 rfl 2 rfl))
         refine lOne 4 (by kernel_rfl) ?_
         ·
          refine LStep.app (some 125) (.tmp 122) (.tmp 124) 31 (by kernel_rfl) 9 si _ 1 16 Tryz.underlying31 S1.out S2.out S3.out S4.out rfl (by omega) (.slice l1 LS.length d1) LS.length (LS.map Value.string) (by kernel_rfl) (HC.out.row 2 rfl) (some ⟨b124, 0, none⟩) 1 1 [.string s] (by kernel_rfl) (nrow1 (HC.out.row 0 rfl)) (by simp [Value.oneCell']) (by unfold maxLen; omega) (by omega) ?_
          intro v' wr hown4 hgrow4 hat4
          have M4 := HC.out.grow 2 rfl hgrow4 hown4 hat4
          obtain ⟨l2, d2, rfl, _⟩ := M4.val 2 rfl
          have HN := Tre.hid (M4.del 0)
          clear M4 hown4 hgrow4 hat4
          refine ⟨HSP.out _ HN.out.below (HN.out.cell 3 rfl 3 rfl) (HN.out.cell 3 rfl 2 rfl), fun hH2 => ?_⟩
          refine lPv 19 (some 140) (.pointer (some ⟨b11, 3, none⟩)) (keep_of hH2) ?_
          exact outof_G hG (Z3.out l2 d2 b138 b124 wr HN) (by kernel_rfl) (by rw [hA.out]; try kernel_rfl)
        ⟩
        have Z6 : Kept (∀ (b124 : Nat) (wq : World), Hid (Mem w7 wq [rowR 9 1 (.slice (some ⟨b124, 0, none⟩) 1 1) 1 [.string s], rowR 9 1 (.slice l1 LS.length d1) LS.length (LS.map Value.string), rowR 3 1 (.slice a1 LT.length e1) LT.length (LT.map (Value.int .i64)), cellsR b11 33 #[.int .i64 3, .string { data := #[] }, .slice a1 LT.length e1, .slice l1 LS.length d1, .bool false], RM, RG]) → G 7 (bt 23 131055) (a0.put (some 124) (.slice (some ⟨b124, 0, none⟩) 1 1)) wq) := ⟨by
         intro b124 wq HC
         refine into_G hG ?_
         rw [hA.out]
         have hH := cS.is (w := wq) (HSP.out _ HC.out.below (HC.out.cell 3 rfl 3 rfl) (HC.out.cell 3 rfl 2 rfl))
         refine lTwo 4 17 (by kernel_rfl) ?_ ?_
         ·
          refine LStep.app (some 125) (.tmp 122) (.tmp 124) 31 (by kernel_rfl) 9 si _ 1 16 Tryz.underlying31 S1.out S2.out S3.out S4.out rfl (by omega) (.slice l1 LS.length d1) LS.length (LS.map Value.string) (by kernel_rfl) (HC.out.row 1 rfl) (some ⟨b124, 0, none⟩) 1 1 [.string s] (by kernel_rfl) (nrow1 (HC.out.row 0 rfl)) (by simp [Value.oneCell']) (by unfold maxLen; omega) (by omega) ?_
          intro v' wr hown4 hgrow4 hat4
          have M4 := HC.out.grow 1 rfl hgrow4 hown4 hat4
          obtain ⟨l2, d2, rfl, _⟩ := M4.val 1 rfl
          have HN := Tre.hid (M4.del 0)
          clear M4 hown4 hgrow4 hat4
          refine ⟨HSP.out _ HN.out.below (HN.out.cell 2 rfl 3 rfl) (HN.out.cell 2 rfl 2 rfl), fun hH2 => ?_⟩
          refine lPv 19 (some 140) (.pointer (some ⟨b11, 3, none⟩)) (keep_of hH2) ?_
          exact outof_G hG (Z4.out l2 d2 b124 wr HN) (by kernel_rfl) (by rw [hA.out]; try kernel_rfl)
         ·
          have HN := Tre.hid (HC.out.allocRow #[.int .i64 a] 3 1 1 (by unfold maxLen; omega) rfl)
          have HC := Tre.hid ((HN.out.front 0 rfl).front 1 rfl)
          clear HN
          have hH2 := cS.is (w := (wq.alloc (.cells #[.int .i64 a] 3))) (HSP.out _ HC.out.below (HC.out.cell 4 rfl 3 rfl) (HC.out.cell 4 rfl 2 rfl))
          refine LStep.made (some 138) (.slice (some ⟨wq.heap.size, 0, none⟩) 1 1) _ (by kernel_rfl) (by kernel_rfl) hH2 ?_
          exact outof_G hG (Z5.out b124 wq.heap.size _ HC) (by kernel_rfl) (by rw [hA.out]; try kernel_rfl)
        ⟩
        have Z7 : Kept (∀ (b138 : Nat) (wq : World), Hid (Mem w7 wq [rowR 3 1 (.slice (some ⟨b138, 0, none⟩) 1 1) 1 [.int .i64 a], rowR 9 1 (.slice l1 LS.length d1) LS.length (LS.map Value.string), rowR 3 1 (.slice a1 LT.length e1) LT.length (LT.map (Value.int .i64)), cellsR b11 33 #[.int .i64 3, .string { data := #[] }, .slice a1 LT.length e1, .slice l1 LS.length d1, .bool false], RM, RG]) → G 7 (bt 23 262119) (a0.put (some 138) (.slice (some ⟨b138, 0, none⟩) 1 1)) wq) := ⟨by
         intro b138 wq HC
         refine into_G hG ?_
         rw [hA.out]
         have hH := cS.is (w := wq) (HSP.out _ HC.out.below (HC.out.cell 3 rfl 3 rfl) (HC.out.cell 3 rfl 2 rfl))
         refine lOne 3 (by kernel_rfl) ?_
         ·
          have HN := Tre.hid (HC.out.allocRow #[.string s] 9 1 1 (by unfold maxLen; omega) rfl)
          have hH2 := cS.is (w := (wq.alloc (.cells #[.string s] 9))) (HSP.out _ HN.out.below (HN.out.cell 4 rfl 3 rfl) (HN.out.cell 4 rfl 2 rfl))
          refine LStep.made (some 124) (.slice (some ⟨wq.heap.size, 0, none⟩) 1 1) _ (by kernel_rfl) (by kernel_rfl) hH2 ?_
          exact outof_G hG (Z5.out wq.heap.size b138 _ HN) (by kernel_rfl) (by rw [hA.out]; try kernel_rfl)
        ⟩
        have Z8 : Kept (∀ (wq : World), Hid (Mem w7 wq [rowR 9 1 (.slice l1 LS.length d1) LS.length (LS.map Value.string), rowR 3 1 (.slice a1 LT.length e1) LT.length (LT.map (Value.int .i64)), cellsR b11 33 #[.int .i64 3, .string { data := #[] }, .slice a1 LT.length e1, .slice l1 LS.length d1, .bool false], RM, RG]) → G 8 (bt 23 131047) (a0) wq) := ⟨by
         intro  wq HC
         refine into_G hG ?_
         rw [hA.out]
         have hH := cS.is (w := wq) (HSP.out _ HC.out.below (HC.out.cell 2 rfl 3 rfl) (HC.out.cell 2 rfl 2 rfl))
         refine lTwo 3 17 (by kernel_rfl) ?_ ?_
         ·
          have HN := Tre.hid (HC.out.allocRow #[.string s] 9 1 1 (by unfold maxLen; omega) rfl)
          have hH2 := cS.is (w := (wq.alloc (.cells #[.string s] 9))) (HSP.out _ HN.out.below (HN.out.cell 3 rfl 3 rfl) (HN.out.cell 3 rfl 2 rfl))
          refine LStep.made (some 124) (.slice (some ⟨wq.heap.size, 0, none⟩) 1 1) _ (by kernel_rfl) (by kernel_rfl) hH2 ?_
          exact outof_G hG (Z6.out wq.heap.size _ HN) (by kernel_rfl) (by rw [hA.out]; try kernel_rfl)
         ·
          have HN := Tre.hid (HC.out.allocRow #[.int .i64 a] 3 1 1 (by unfold maxLen; omega) rfl)
          have hH2 := cS.is (w := (wq.alloc (.cells #[.int .i64 a] 3))) (HSP.out _ HN.out.below (HN.out.cell 3 rfl 3 rfl) (HN.out.cell 3 rfl 2 rfl))
          refine LStep.made (some 138) (.slice (some ⟨wq.heap.size, 0, none⟩) 1 1) _ (by kernel_rfl) (by kernel_rfl) hH2 ?_
          exact outof_G hG (Z7.out wq.heap.size _ HN) (by kernel_rfl) (by rw [hA.out]; try kernel_rfl)
        ⟩
        exact Z8.out  wq0 HC
       ·have hls : Op.bytesLess s.toList [117, 110, 117, 115, 117, 97, 108] = false := by cases hz : Op.bytesLess s.toList [117, 110, 117, 115, 117, 97, 108]; rfl; exact absurd hz hls
        have HLS : Hid (Op.bytesLess unB.toList s.toList = true) := less_tri HNE.out (by rw [un_list]; exact hls)
        have HR := HI
        go_upto_region 20 with fail
        clear t1 hxc hls
        have HSP : Hid (∀ W, Below w7.heap.size w7 W → W.cell? ⟨b11, 3, none⟩ = some (.slice l1 LS.length d1) → W.cell? ⟨b11, 2, none⟩ = some (.slice a1 LT.length e1) → (fun w' => w'.cell? ⟨b11, 3, none⟩ = some (.slice l1 LS.length d1) ∧ w'.cell? ⟨b11, 2, none⟩ = some (.slice a1 LT.length e1) ∧ w'.cell? ⟨w.heap.size, 1, none⟩ = some (.int .i64 (rg : Int))) W) := fun W hW h3 h2 => ⟨h3, h2, cell_below hW P31.out⟩
        have cS : Cond (fun w' => w'.cell? ⟨b11, 3, none⟩ = some (.slice l1 LS.length d1) ∧ w'.cell? ⟨b11, 2, none⟩ = some (.slice a1 LT.length e1) ∧ w'.cell? ⟨w.heap.size, 1, none⟩ = some (.int .i64 (rg : Int))) := ⟨⟩
        refine cS.keep [11] ?_ (fun hH => ?_)
        ·exact HSP.out _ HR.out.drew.below (HR.out.drew.cell 2 rfl 3 rfl) (HR.out.drew.cell 2 rfl 2 rfl)
        have HC := Tre.hid HR.out.drew
        generalize hq : World.drew _ = wq0 at HC hH ⊢
        clear hq
        refine lPv 0 (some 109) (.pointer (some ⟨b11, 3, none⟩)) (keep_of hH) ?_
        try simp only [Act.put, zqf, zqg, zqh]
        refine lTq 1 (some 110) (v := ?_) rfl ?_ hH ?_
        rotate_left
        ·intro w hSw; (try dsimp only at hSw); go_simp <;> with_reducible rfl
        try simp only [Act.put, zqf, zqg, zqh]
        refine lPv 4 (some 113) (.pointer (some ⟨b11, 2, none⟩)) (keep_of hH) ?_
        try simp only [Act.put, zqf, zqg, zqh]
        refine lTq 5 (some 114) (v := ?_) rfl ?_ hH ?_
        rotate_left
        ·intro w hSw; (try dsimp only at hSw); go_simp <;> with_reducible rfl
        try simp only [Act.put, zqf, zqg, zqh]
        refine lPv 6 (some 115) (.pointer (some ⟨w.heap.size, 1, none⟩)) (keep_of hH) ?_
        try simp only [Act.put, zqf, zqg, zqh]
        refine lTq 7 (some 116) (v := ?_) rfl ?_ hH ?_
        rotate_left
        ·intro w hSw; (try dsimp only at hSw); go_simp <;> with_reducible rfl
        try simp only [Act.put, zqf, zqg, zqh]
        try simp only [Act.put, zqf, zqg, zqh]
        refine with_G (G0 := wpAnyL _ _ _ _ _ _) ?_
        intro G hG a0 hA
        have Z0 : Kept (∀ (l2 : Option Addr) (d2 : Nat) (a2 : Option Addr) (e2 : Nat) (b111 : Nat) (b117 : Nat) (wq : World), Hid (Mem w7 wq [rowR 9 1 (.slice l2 (LS.length + 1) d2) (LS.length + 1) (LS.map Value.string ++ [.string { data := #[117, 110, 117, 115, 117, 97, 108] }]), rowR 3 1 (.slice a2 (LT.length + 1) e2) (LT.length + 1) (LT.map (Value.int .i64) ++ [.int .i64 (rg : Int)]), cellsR b11 33 #[.int .i64 3, .string { data := #[] }, .slice a2 (LT.length + 1) e2, .slice l2 (LS.length + 1) d2, .bool false], RM, RG]) → G 0 (bt 15 32767) (((((((a0.put (some 111) (.slice (some ⟨b111, 0, none⟩) 1 1)).put (some 112) (.slice l2 (LS.length + 1) d2)).put (some 117) (.slice (some ⟨b117, 0, none⟩) 1 1)).put (some 118) (.slice a2 (LT.length + 1) e2)).put (some 119) (.pointer (some ⟨b11, 3, none⟩))).put (some 120) (.pointer (some ⟨b11, 2, none⟩))).put (some 12) (.bool true)) wq) := ⟨by
         intro l2 d2 a2 e2 b111 b117 wq HC
         refine into_G hG ?_
         rw [hA.out]
         try simp only [Act.put, zqf, zqg, zqh]
         refine lDone (by kernel_rfl) ?_
         clear hA hG
         obtain ⟨LS2, hS2⟩ : ∃ L, LS ++ [unB] = L := ⟨_, rfl⟩
         obtain ⟨LT2, hT2⟩ : ∃ L, LT ++ [(rg : Int)] = L := ⟨_, rfl⟩
         have el : LS.length + 1 = LS2.length := by rw [← hS2, List.length_append]; rfl
         have et : LT.length + 1 = LT2.length := by rw [← hT2, List.length_append]; rfl
         have HR : Hid (Mem w7 wq [rowR 9 1 (.slice l2 LS2.length d2) LS2.length (LS2.map Value.string), rowR 3 1 (.slice a2 LT2.length e2) LT2.length (LT2.map (Value.int .i64)), cellsR b11 33 #[.int .i64 3, .string { data := #[] }, .slice a2 LT2.length e2, .slice l2 LS2.length d2, .bool false], RM, RG]) := by
          have h := HC.out
          rw [el, et] at h
          show Mem w7 wq _
          rw [show LS2.map Value.string = LS.map Value.string ++ [.string { data := #[117, 110, 117, 115, 117, 97, 108] }] by rw [← hS2, List.map_append]; rfl, show LT2.map (Value.int .i64) = LT.map (Value.int .i64) ++ [.int .i64 (rg : Int)] by rw [← hT2, List.map_append]; rfl]
          exact h
         rw [el, et]
         clear HC
         have HS2 := Tre.hid hS2
         have HT2 := Tre.hid hT2
         have hsl2 : LS2.length ≤ 1048578 := by omega
         have htl2 : LT2.length ≤ 1048578 := by omega
         clear hS2 hT2 el et
         go_upto_region 21 with fail
         have HSP : Hid (∀ W, Below w7.heap.size w7 W → W.cell? ⟨b11, 3, none⟩ = some (.slice l2 LS2.length d2) → W.cell? ⟨b11, 2, none⟩ = some (.slice a2 LT2.length e2) → (fun w' => w'.cell? ⟨b11, 3, none⟩ = some (.slice l2 LS2.length d2) ∧ w'.cell? ⟨b11, 2, none⟩ = some (.slice a2 LT2.length e2) ∧ w'.cell? ⟨w.heap.size, 0, none⟩ = some (.slice (some ⟨gA, oA, none⟩) n ca) ∧ w'.cell? ⟨w.heap.size, 1, none⟩ = some (.int .i64 (rg : Int)) ∧ w'.cell? ⟨gA, oA + rg * 5 + 2, none⟩ = some (.slice (some ⟨ba, oa, none⟩) X.args.length cx) ∧ w'.cell? ⟨ba, oa + k, none⟩ = some (.int .i64 a)) W) := fun W hW h3 h2 => ⟨h3, h2, cell_below hW P30.out, cell_below hW P31.out, cell_below hW PX2.out, cell_below hW PA.out⟩
         have cS : Cond (fun w' => w'.cell? ⟨b11, 3, none⟩ = some (.slice l2 LS2.length d2) ∧ w'.cell? ⟨b11, 2, none⟩ = some (.slice a2 LT2.length e2) ∧ w'.cell? ⟨w.heap.size, 0, none⟩ = some (.slice (some ⟨gA, oA, none⟩) n ca) ∧ w'.cell? ⟨w.heap.size, 1, none⟩ = some (.int .i64 (rg : Int)) ∧ w'.cell? ⟨gA, oA + rg * 5 + 2, none⟩ = some (.slice (some ⟨ba, oa, none⟩) X.args.length cx) ∧ w'.cell? ⟨ba, oa + k, none⟩ = some (.int .i64 a)) := ⟨⟩
         refine cS.keep [20] ?_ (fun hH => ?_)
         ·exact HSP.out _ HR.out.drew.below (HR.out.drew.cell 2 rfl 3 rfl) (HR.out.drew.cell 2 rfl 2 rfl)
         have HC := Tre.hid HR.out.drew
         generalize hq : World.drew _ = wq0 at HC hH ⊢
         clear hq
         refine lPv 0 (some 121) (.pointer (some ⟨b11, 3, none⟩)) (keep_of hH) ?_
         try simp only [Act.put, zqf, zqg, zqh]
         refine lTq 1 (some 122) (v := ?_) rfl ?_ hH ?_
         rotate_left
         ·intro w hSw; (try dsimp only at hSw); go_simp <;> with_reducible rfl
         try simp only [Act.put, zqf, zqg, zqh]
         refine lPv 2 (some 123) (.string s) (keep_of hH) ?_
         refine lPv 5 (some 126) (.pointer (some ⟨b11, 2, none⟩)) (keep_of hH) ?_
         try simp only [Act.put, zqf, zqg, zqh]
         refine lTq 6 (some 127) (v := ?_) rfl ?_ hH ?_
         rotate_left
         ·intro w hSw; (try dsimp only at hSw); go_simp <;> with_reducible rfl
         try simp only [Act.put, zqf, zqg, zqh]
         refine lPv 7 (some 128) (.pointer (some ⟨w.heap.size, 0, none⟩)) (keep_of hH) ?_
         try simp only [Act.put, zqf, zqg, zqh]
         refine lTq 8 (some 129) (v := ?_) rfl ?_ hH ?_
         rotate_left
         ·intro w hSw; (try dsimp only at hSw); go_simp <;> with_reducible rfl
         try simp only [Act.put, zqf, zqg, zqh]
         refine lPv 9 (some 130) (.pointer (some ⟨w.heap.size, 1, none⟩)) (keep_of hH) ?_
         try simp only [Act.put, zqf, zqg, zqh]
         refine lTq 10 (some 131) (v := ?_) rfl ?_ hH ?_
         rotate_left
         ·intro w hSw; (try dsimp only at hSw); go_simp <;> with_reducible rfl
         try simp only [Act.put, zqf, zqg, zqh]
         try simp only [Act.put, zqf, zqg, zqh]
         refine lPq 11 (some 132) (v := ?_) rfl ?_ (keep_of hH) ?_
         rotate_left
         ·intro w; go_simp <;> with_reducible rfl
         refine lPv 12 (some 133) (.pointer (some ⟨gA, oA + rg * 5 + 2, none⟩)) (keep_of hH) ?_
         try simp only [Act.put, zqf, zqg, zqh]
         refine lTq 13 (some 134) (v := ?_) rfl ?_ hH ?_
         rotate_left
         ·intro w hSw; (try dsimp only at hSw); go_simp <;> with_reducible rfl
         try simp only [Act.put, zqf, zqg, zqh]
         refine lPv 14 (some 135) (.int .i64 (k : Int)) (keep_of hH) ?_
         try simp only [Act.put, zqf, zqg, zqh]
         refine lPq 15 (some 136) (v := ?_) rfl ?_ (keep_of hH) ?_
         rotate_left
         ·intro w; go_simp <;> with_reducible rfl
         try simp only [Act.put, zqf, zqg, zqh]
         refine lTq 16 (some 137) (v := ?_) rfl ?_ hH ?_
         rotate_left
         ·intro w hSw; (try dsimp only at hSw); go_simp <;> with_reducible rfl
         try simp only [Act.put, zqf, zqg, zqh]
         try simp only [Act.put, zqf, zqg, zqh]
         refine with_G (G0 := wpAnyL _ _ _ _ _ _) ?_
         intro G hG a0 hA
         have Z0 : Kept (∀ (l4 : Option Addr) (d4 : Nat) (a4 : Option Addr) (e4 : Nat) (b124 : Nat) (b138 : Nat) (wq : World), Hid (Mem w7 wq [rowR 9 1 (.slice l4 (LS2.length + 1) d4) (LS2.length + 1) (LS2.map Value.string ++ [.string s]), rowR 3 1 (.slice a4 (LT2.length + 1) e4) (LT2.length + 1) (LT2.map (Value.int .i64) ++ [.int .i64 a]), cellsR b11 33 #[.int .i64 3, .string { data := #[] }, .slice a4 (LT2.length + 1) e4, .slice l4 (LS2.length + 1) d4, .bool false], RM, RG]) → G 0 (bt 23 8388607) ((((((a0.put (some 124) (.slice (some ⟨b124, 0, none⟩) 1 1)).put (some 125) (.slice l4 (LS2.length + 1) d4)).put (some 138) (.slice (some ⟨b138, 0, none⟩) 1 1)).put (some 139) (.slice a4 (LT2.length + 1) e4)).put (some 140) (.pointer (some ⟨b11, 3, none⟩))).put (some 141) (.pointer (some ⟨b11, 2, none⟩))) wq) := ⟨by
          intro l4 d4 a4 e4 b124 b138 wq HC
          refine into_G hG ?_
          rw [hA.out]
          try simp only [Act.put, zqf, zqg, zqh]
          refine lDone (by kernel_rfl) ?_
          clear hA hG
          go_wp2_with fail
          go_roundw
          case rel =>
           refine ⟨k + 1, LS2 ++ [s], LT2 ++ [a], true, l4, d4, a4, e4, by omega, rfl, by go_num, by have h := hOW.out.more hs.out ha.out HLS.out; rw [HS2.out, HT2.out] at h; exact h, ?_⟩
           show Mem _ _ _
           rw [List.length_append, List.length_append, List.map_append, List.map_append]
           exact HC.out
          case measure => simp [intOf]; omega
         ⟩
         have Z1 : Kept (∀ (l4 : Option Addr) (d4 : Nat) (a4 : Option Addr) (e4 : Nat) (b124 : Nat) (b138 : Nat) (wq : World), Hid (Mem w7 wq [rowR 9 1 (.slice l4 (LS2.length + 1) d4) (LS2.length + 1) (LS2.map Value.string ++ [.string s]), rowR 3 1 (.slice a4 (LT2.length + 1) e4) (LT2.length + 1) (LT2.map (Value.int .i64) ++ [.int .i64 a]), cellsR b11 33 #[.int .i64 3, .string { data := #[] }, .slice a2 LT2.length e2, .slice l4 (LS2.length + 1) d4, .bool false], RM, RG]) → G 1 (bt 23 4194303) ((((((a0.put (some 124) (.slice (some ⟨b124, 0, none⟩) 1 1)).put (some 125) (.slice l4 (LS2.length + 1) d4)).put (some 138) (.slice (some ⟨b138, 0, none⟩) 1 1)).put (some 139) (.slice a4 (LT2.length + 1) e4)).put (some 140) (.pointer (some ⟨b11, 3, none⟩))).put (some 141) (.pointer (some ⟨b11, 2, none⟩))) wq) := ⟨by
          intro l4 d4 a4 e4 b124 b138 wq HC
          refine into_G hG ?_
          rw [hA.out]
          try simp only [Act.put, zqf, zqg, zqh]
          refine lOne 22 (by kernel_rfl) ?_
          ·
           refine (LFall.op (by kernel_rfl) (fun K hK => ?_))
           have z0 := HC.out.free 2 rfl 2
           obtain ⟨y0, y1, y2, y3, y4⟩ := five HC.out 2 rfl
           have HN := Tre.hid (HC.out.setCell 2 rfl 2 (.slice a4 (LT2.length + 1) e4))
           go_simp
           clear z0 y0 y1 y2 y3 y4
           generalize hw : World.setCell _ ⟨b11, 2, none⟩ _ = wr at HN ⊢
           clear hw
           refine hK.out _ _ ?_
           exact outof_G hG (Z0.out l4 d4 a4 e4 b124 b138 wr HN) (by kernel_rfl) (by rw [hA.out]; try kernel_rfl)
         ⟩
         have Z2 : Kept (∀ (l4 : Option Addr) (d4 : Nat) (a4 : Option Addr) (e4 : Nat) (b124 : Nat) (b138 : Nat) (wq : World), Hid (Mem w7 wq [rowR 9 1 (.slice l4 (LS2.length + 1) d4) (LS2.length + 1) (LS2.map Value.string ++ [.string s]), rowR 3 1 (.slice a4 (LT2.length + 1) e4) (LT2.length + 1) (LT2.map (Value.int .i64) ++ [.int .i64 a]), cellsR b11 33 #[.int .i64 3, .string { data := #[] }, .slice a2 LT2.length e2, .slice l2 LS2.length d2, .bool false], RM, RG]) → G 3 (bt 23 1048575) (((((a0.put (some 124) (.slice (some ⟨b124, 0, none⟩) 1 1)).put (some 125) (.slice l4 (LS2.length + 1) d4)).put (some 138) (.slice (some ⟨b138, 0, none⟩) 1 1)).put (some 139) (.slice a4 (LT2.length + 1) e4)).put (some 140) (.pointer (some ⟨b11, 3, none⟩))) wq) := ⟨by
          intro l4 d4 a4 e4 b124 b138 wq HC
          refine into_G hG ?_
          rw [hA.out]
          try simp only [Act.put, zqf, zqg, zqh]
          have hH := cS.is (w := wq) (HSP.out _ HC.out.below (HC.out.cell 2 rfl 3 rfl) (HC.out.cell 2 rfl 2 rfl))
          refine lOne 20 (by kernel_rfl) ?_
          ·
           refine (LFall.op (by kernel_rfl) (fun K hK => ?_))
           have z0 := HC.out.free 2 rfl 3
           obtain ⟨y0, y1, y2, y3, y4⟩ := five HC.out 2 rfl
           have HN := Tre.hid (HC.out.setCell 2 rfl 3 (.slice l4 (LS2.length + 1) d4))
           go_simp
           clear z0 y0 y1 y2 y3 y4
           generalize hw : World.setCell _ ⟨b11, 3, none⟩ _ = wr at HN ⊢
           clear hw
           refine hK.out _ _ ?_
           refine lPv 21 (some 141) (.pointer (some ⟨b11, 2, none⟩)) (keep_fell (by kernel_rfl)) ?_
           exact outof_G hG (Z1.out l4 d4 a4 e4 b124 b138 wr HN) (by kernel_rfl) (by rw [hA.out]; try kernel_rfl)
         ⟩
         have Z3 : Kept (∀ (l4 : Option Addr) (d4 : Nat) (b138 : Nat) (b124 : Nat) (wq : World), Hid (Mem w7 wq [rowR 3 1 (.slice (some ⟨b138, 0, none⟩) 1 1) 1 [.int .i64 a], rowR 9 1 (.slice l4 (LS2.length + 1) d4) (LS2.length + 1) (LS2.map Value.string ++ [.string s]), rowR 3 1 (.slice a2 LT2.length e2) LT2.length (LT2.map (Value.int .i64)), cellsR b11 33 #[.int .i64 3, .string { data := #[] }, .slice a2 LT2.length e2, .slice l2 LS2.length d2, .bool false], RM, RG]) → G 4 (bt 23 786431) ((((a0.put (some 124) (.slice (some ⟨b124, 0, none⟩) 1 1)).put (some 125) (.slice l4 (LS2.length + 1) d4)).put (some 138) (.slice (some ⟨b138, 0, none⟩) 1 1)).put (some 140) (.pointer (some ⟨b11, 3, none⟩))) wq) := ⟨by
          intro l4 d4 b138 b124 wq HC
          refine into_G hG ?_
          rw [hA.out]
          have hH := cS.is (w := wq) (HSP.out _ HC.out.below (HC.out.cell 3 rfl 3 rfl) (HC.out.cell 3 rfl 2 rfl))
          refine lOne 18 (by kernel_rfl) ?_
          ·
           refine LStep.app (some 139) (.tmp 127) (.tmp 138) 30 (by kernel_rfl) 3 ji _ 1 8 Tryz.underlying30 L1.out L2.out L3.out L4.out rfl (by omega) (.slice a2 LT2.length e2) LT2.length (LT2.map (Value.int .i64)) (by kernel_rfl) (HC.out.row 2 rfl) (some ⟨b138, 0, none⟩) 1 1 [.int .i64 a] (by kernel_rfl) (nrow1 (HC.out.row 0 rfl)) (by simp [Value.oneCell']) (by unfold maxLen; omega) (by omega) ?_
           intro v' wr hown4 hgrow4 hat4
           have M4 := HC.out.grow 2 rfl hgrow4 hown4 hat4
           obtain ⟨a4, e4, rfl, _⟩ := M4.val 2 rfl
           have HN := Tre.hid (M4.del 0)
           clear M4 hown4 hgrow4 hat4
           refine ⟨HSP.out _ HN.out.below (HN.out.cell 2 rfl 3 rfl) (HN.out.cell 2 rfl 2 rfl), fun hH2 => ?_⟩
           exact outof_G hG (Z2.out l4 d4 a4 e4 b124 b138 wr HN) (by kernel_rfl) (by rw [hA.out]; try kernel_rfl)
         ⟩
         have Z4 : Kept (∀ (l4 : Option Addr) (d4 : Nat) (b124 : Nat) (wq : World), Hid (Mem w7 wq [rowR 9 1 (.slice l4 (LS2.length + 1) d4) (LS2.length + 1) (LS2.map Value.string ++ [.string s]), rowR 3 1 (.slice a2 LT2.length e2) LT2.length (LT2.map (Value.int .i64)), cellsR b11 33 #[.int .i64 3, .string { data := #[] }, .slice a2 LT2.length e2, .slice l2 LS2.length d2, .bool false], RM, RG]) → G 5 (bt 23 655359) (((a0.put (some 124) (.slice (some ⟨b124, 0, none⟩) 1 1)).put (some 125) (.slice l4 (LS2.length + 1) d4)).put (some 140) (.pointer (some ⟨b11, 3, none⟩))) wq) := ⟨by
          intro l4 d4 b124 wq HC
          refine into_G hG ?_
          rw [hA.out]
          have hH := cS.is (w := wq) (HSP.out _ HC.out.below (HC.out.cell 2 rfl 3 rfl) (HC.out.cell 2 rfl 2 rfl))
          refine lOne 17 (by kernel_rfl) ?_
          ·
           have HN := Tre.hid (HC.out.allocRow #[.int .i64 a] 3 1 1 (by unfold maxLen; omega) rfl)
           have hH2 := cS.is (w := (wq.alloc (.cells #[.int .i64 a] 3))) (HSP.out _ HN.out.below (HN.out.cell 3 rfl 3 rfl) (HN.out.cell 3 rfl 2 rfl))
           refine LStep.made (some 138) (.slice (some ⟨wq.heap.size, 0, none⟩) 1 1) _ (by kernel_rfl) (by kernel_rfl) hH2 ?_
           exact outof_G hG (Z3.out l4 d4 wq.heap.size b124 _ HN) (by kernel_rfl) (by rw [hA.out]; try kernel_rfl)
         ⟩
         have Z5 : Kept (∀ (b124 : Nat) (b138 : Nat) (wq : World), Hid (Mem w7 wq [rowR 9 1 (.slice (some ⟨b124, 0, none⟩) 1 1) 1 [.string s], rowR 3 1 (.slice (some ⟨b138, 0, none⟩) 1 1) 1 [.int .i64 a], rowR 9 1 (.slice l2 LS2.length d2) LS2.length (LS2.map Value.string), rowR 3 1 (.slice a2 LT2.length e2) LT2.length (LT2.map (Value.int .i64)), cellsR b11 33 #[.int .i64 3, .string { data := #[] }, .slice a2 LT2.length e2, .slice l2 LS2.length d2, .bool false], RM, RG]) → G 6 (bt 23 262127) ((a0.put (some 124) (.slice (some ⟨b124, 0, none⟩) 1 1)).put (some 138) (.slice (some ⟨b138, 0, none⟩) 1 1)) wq) := ⟨by
          intro b124 b138 wq HC
          refine into_G hG ?_
          rw [hA.out]
          have hH := cS.is (w := wq) (HSP.out _ HC.out.below (HC.out.cell 4 rfl 3 rfl) (HC.out.cell 4 rfl 2 rfl))
          refine lOne 4 (by kernel_rfl) ?_
          ·
           refine LStep.app (some 125) (.tmp 122) (.tmp 124) 31 (by kernel_rfl) 9 si _ 1 16 Tryz.underlying31 S1.out S2.out S3.out S4.out rfl (by omega) (.slice l2 LS2.length d2) LS2.length (LS2.map Value.string) (by kernel_rfl) (HC.out.row 2 rfl) (some ⟨b124, 0, none⟩) 1 1 [.string s] (by kernel_rfl) (nrow1 (HC.out.row 0 rfl)) (by simp [Value.oneCell']) (by unfold maxLen; omega) (by omega) ?_
           intro v' wr hown4 hgrow4 hat4
           have M4 := HC.out.grow 2 rfl hgrow4 hown4 hat4
           obtain ⟨l4, d4, rfl, _⟩ := M4.val 2 rfl
           have HN := Tre.hid (M4.del 0)
           clear M4 hown4 hgrow4 hat4
           refine ⟨HSP.out _ HN.out.below (HN.out.cell 3 rfl 3 rfl) (HN.out.cell 3 rfl 2 rfl), fun hH2 => ?_⟩
           refine lPv 19 (some 140) (.pointer (some ⟨b11, 3, none⟩)) (keep_of hH2) ?_
           exact outof_G hG (Z3.out l4 d4 b138 b124 wr HN) (by kernel_rfl) (by rw [hA.out]; try kernel_rfl)
         ⟩
         have Z6 : Kept (∀ (b124 : Nat) (wq : World), Hid (Mem w7 wq [rowR 9 1 (.slice (some ⟨b124, 0, none⟩) 1 1) 1 [.string s], rowR 9 1 (.slice l2 LS2.length d2) LS2.length (LS2.map Value.string), rowR 3 1 (.slice a2 LT2.length e2) LT2.length (LT2.map (Value.int .i64)), cellsR b11 33 #[.int .i64 3, .string { data := #[] }, .slice a2 LT2.length e2, .slice l2 LS2.length d2, .bool false], RM, RG]) → G 7 (bt 23 131055) (a0.put (some 124) (.slice (some ⟨b124, 0, none⟩) 1 1)) wq) := ⟨by
          intro b124 wq HC
          refine into_G hG ?_
          rw [hA.out]
          have hH := cS.is (w := wq) (HSP.out _ HC.out.below (HC.out.cell 3 rfl 3 rfl) (HC.out.cell 3 rfl 2 rfl))
          refine lTwo 4 17 (by kernel_rfl) ?_ ?_
          ·
           refine LStep.app (some 125) (.tmp 122) (.tmp 124) 31 (by kernel_rfl) 9 si _ 1 16 Tryz.underlying31 S1.out S2.out S3.out S4.out rfl (by omega) (.slice l2 LS2.length d2) LS2.length (LS2.map Value.string) (by kernel_rfl) (HC.out.row 1 rfl) (some ⟨b124, 0, none⟩) 1 1 [.string s] (by kernel_rfl) (nrow1 (HC.out.row 0 rfl)) (by simp [Value.oneCell']) (by unfold maxLen; omega) (by omega) ?_
           intro v' wr hown4 hgrow4 hat4
           have M4 := HC.out.grow 1 rfl hgrow4 hown4 hat4
           obtain ⟨l4, d4, rfl, _⟩ := M4.val 1 rfl
           have HN := Tre.hid (M4.del 0)
           clear M4 hown4 hgrow4 hat4
           refine ⟨HSP.out _ HN.out.below (HN.out.cell 2 rfl 3 rfl) (HN.out.cell 2 rfl 2 rfl), fun hH2 => ?_⟩
           refine lPv 19 (some 140) (.pointer (some ⟨b11, 3, none⟩)) (keep_of hH2) ?_
           exact outof_G hG (Z4.out l4 d4 b124 wr HN) (by kernel_rfl) (by rw [hA.out]; try kernel_rfl)
          ·
           have HN := Tre.hid (HC.out.allocRow #[.int .i64 a] 3 1 1 (by unfold maxLen; omega) rfl)
           have HC := Tre.hid ((HN.out.front 0 rfl).front 1 rfl)
           clear HN
           have hH2 := cS.is (w := (wq.alloc (.cells #[.int .i64 a] 3))) (HSP.out _ HC.out.below (HC.out.cell 4 rfl 3 rfl) (HC.out.cell 4 rfl 2 rfl))
           refine LStep.made (some 138) (.slice (some ⟨wq.heap.size, 0, none⟩) 1 1) _ (by kernel_rfl) (by kernel_rfl) hH2 ?_
           exact outof_G hG (Z5.out b124 wq.heap.size _ HC) (by kernel_rfl) (by rw [hA.out]; try kernel_rfl)
         ⟩
         have Z7 : Kept (∀ (b138 : Nat) (wq : World), Hid (Mem w7 wq [rowR 3 1 (.slice (some ⟨b138, 0, none⟩) 1 1) 1 [.int .i64 a], rowR 9 1 (.slice l2 LS2.length d2) LS2.length (LS2.map Value.string), rowR 3 1 (.slice a2 LT2.length e2) LT2.length (LT2.map (Value.int .i64)), cellsR b11 33 #[.int .i64 3, .string { data := #[] }, .slice a2 LT2.length e2, .slice l2 LS2.length d2, .bool false], RM, RG]) → G 7 (bt 23 262119) (a0.put (some 138) (.slice (some ⟨b138, 0, none⟩) 1 1)) wq) := ⟨by
          intro b138 wq HC
          refine into_G hG ?_
          rw [hA.out]
          have hH := cS.is (w := wq) (HSP.out _ HC.out.below (HC.out.cell 3 rfl 3 rfl) (HC.out.cell 3 rfl 2 rfl))
          refine lOne 3 (by kernel_rfl) ?_
          ·
           have HN := Tre.hid (HC.out.allocRow #[.string s] 9 1 1 (by unfold maxLen; omega) rfl)
           have hH2 := cS.is (w := (wq.alloc (.cells #[.string s] 9))) (HSP.out _ HN.out.below (HN.out.cell 4 rfl 3 rfl) (HN.out.cell 4 rfl 2 rfl))
           refine LStep.made (some 124) (.slice (some ⟨wq.heap.size, 0, none⟩) 1 1) _ (by kernel_rfl) (by kernel_rfl) hH2 ?_
           exact outof_G hG (Z5.out wq.heap.size b138 _ HN) (by kernel_rfl) (by rw [hA.out]; try kernel_rfl)
         ⟩
         have Z8 : Kept (∀ (wq : World), Hid (Mem w7 wq [rowR 9 1 (.slice l2 LS2.length d2) LS2.length (LS2.map Value.string), rowR 3 1 (.slice a2 LT2.length e2) LT2.length (LT2.map (Value.int .i64)), cellsR b11 33 #[.int .i64 3, .string { data := #[] }, .slice a2 LT2.length e2, .slice l2 LS2.length d2, .bool false], RM, RG]) → G 8 (bt 23 131047) (a0) wq) := ⟨by
          intro  wq HC
          refine into_G hG ?_
          rw [hA.out]
          have hH := cS.is (w := wq) (HSP.out _ HC.out.below (HC.out.cell 2 rfl 3 rfl) (HC.out.cell 2 rfl 2 rfl))
          refine lTwo 3 17 (by kernel_rfl) ?_ ?_
          ·
           have HN := Tre.hid (HC.out.allocRow #[.string s] 9 1 1 (by unfold maxLen; omega) rfl)
           have hH2 := cS.is (w := (wq.alloc (.cells #[.string s] 9))) (HSP.out _ HN.out.below (HN.out.cell 3 rfl 3 rfl) (HN.out.cell 3 rfl 2 rfl))
           refine LStep.made (some 124) (.slice (some ⟨wq.heap.size, 0, none⟩) 1 1) _ (by kernel_rfl) (by kernel_rfl) hH2 ?_
           exact outof_G hG (Z6.out wq.heap.size _ HN) (by kernel_rfl) (by rw [hA.out]; try kernel_rfl)
          ·
           have HN := Tre.hid (HC.out.allocRow #[.int .i64 a] 3 1 1 (by unfold maxLen; omega) rfl)
           have hH2 := cS.is (w := (wq.alloc (.cells #[.int .i64 a] 3))) (HSP.out _ HN.out.below (HN.out.cell 3 rfl 3 rfl) (HN.out.cell 3 rfl 2 rfl))
           refine LStep.made (some 138) (.slice (some ⟨wq.heap.size, 0, none⟩) 1 1) _ (by kernel_rfl) (by kernel_rfl) hH2 ?_
           exact outof_G hG (Z7.out wq.heap.size _ HN) (by kernel_rfl) (by rw [hA.out]; try kernel_rfl)
         ⟩
         exact Z8.out  wq0 HC
        ⟩
        have Z1 : Kept (∀ (l2 : Option Addr) (d2 : Nat) (a2 : Option Addr) (e2 : Nat) (b111 : Nat) (b117 : Nat) (wq : World), Hid (Mem w7 wq [rowR 9 1 (.slice l2 (LS.length + 1) d2) (LS.length + 1) (LS.map Value.string ++ [.string { data := #[117, 110, 117, 115, 117, 97, 108] }]), rowR 3 1 (.slice a2 (LT.length + 1) e2) (LT.length + 1) (LT.map (Value.int .i64) ++ [.int .i64 (rg : Int)]), cellsR b11 33 #[.int .i64 3, .string { data := #[] }, .slice a1 LT.length e1, .slice l2 (LS.length + 1) d2, .bool false], RM, RG]) → G 2 (bt 15 8191) ((((((a0.put (some 111) (.slice (some ⟨b111, 0, none⟩) 1 1)).put (some 112) (.slice l2 (LS.length + 1) d2)).put (some 117) (.slice (some ⟨b117, 0, none⟩) 1 1)).put (some 118) (.slice a2 (LT.length + 1) e2)).put (some 119) (.pointer (some ⟨b11, 3, none⟩))).put (some 120) (.pointer (some ⟨b11, 2, none⟩))) wq) := ⟨by
         intro l2 d2 a2 e2 b111 b117 wq HC
         refine into_G hG ?_
         rw [hA.out]
         try simp only [Act.put, zqf, zqg, zqh]
         refine lOne 13 (by kernel_rfl) ?_
         ·
          refine (LFall.op (by kernel_rfl) (fun K hK => ?_))
          have z0 := HC.out.free 2 rfl 2
          obtain ⟨y0, y1, y2, y3, y4⟩ := five HC.out 2 rfl
          have HN := Tre.hid (HC.out.setCell 2 rfl 2 (.slice a2 (LT.length + 1) e2))
          go_simp
          clear z0 y0 y1 y2 y3 y4
          generalize hw : World.setCell _ ⟨b11, 2, none⟩ _ = wr at HN ⊢
          clear hw
          refine hK.out _ _ ?_
          refine lPv 14 (some 12) (.bool true) (keep_fell (by kernel_rfl)) ?_
          exact outof_G hG (Z0.out l2 d2 a2 e2 b111 b117 wr HN) (by kernel_rfl) (by rw [hA.out]; try kernel_rfl)
        ⟩
        have Z2 : Kept (∀ (l2 : Option Addr) (d2 : Nat) (a2 : Option Addr) (e2 : Nat) (b111 : Nat) (b117 : Nat) (wq : World), Hid (Mem w7 wq [rowR 9 1 (.slice l2 (LS.length + 1) d2) (LS.length + 1) (LS.map Value.string ++ [.string { data := #[117, 110, 117, 115, 117, 97, 108] }]), rowR 3 1 (.slice a2 (LT.length + 1) e2) (LT.length + 1) (LT.map (Value.int .i64) ++ [.int .i64 (rg : Int)]), cellsR b11 33 #[.int .i64 3, .string { data := #[] }, .slice a1 LT.length e1, .slice l1 LS.length d1, .bool false], RM, RG]) → G 4 (bt 15 2047) (((((a0.put (some 111) (.slice (some ⟨b111, 0, none⟩) 1 1)).put (some 112) (.slice l2 (LS.length + 1) d2)).put (some 117) (.slice (some ⟨b117, 0, none⟩) 1 1)).put (some 118) (.slice a2 (LT.length + 1) e2)).put (some 119) (.pointer (some ⟨b11, 3, none⟩))) wq) := ⟨by
         intro l2 d2 a2 e2 b111 b117 wq HC
         refine into_G hG ?_
         rw [hA.out]
         try simp only [Act.put, zqf, zqg, zqh]
         have hH := cS.is (w := wq) (HSP.out _ HC.out.below (HC.out.cell 2 rfl 3 rfl) (HC.out.cell 2 rfl 2 rfl))
         refine lOne 11 (by kernel_rfl) ?_
         ·
          refine (LFall.op (by kernel_rfl) (fun K hK => ?_))
          have z0 := HC.out.free 2 rfl 3
          obtain ⟨y0, y1, y2, y3, y4⟩ := five HC.out 2 rfl
          have HN := Tre.hid (HC.out.setCell 2 rfl 3 (.slice l2 (LS.length + 1) d2))
          go_simp
          clear z0 y0 y1 y2 y3 y4
          generalize hw : World.setCell _ ⟨b11, 3, none⟩ _ = wr at HN ⊢
          clear hw
          refine hK.out _ _ ?_
          refine lPv 12 (some 120) (.pointer (some ⟨b11, 2, none⟩)) (keep_fell (by kernel_rfl)) ?_
          exact outof_G hG (Z1.out l2 d2 a2 e2 b111 b117 wr HN) (by kernel_rfl) (by rw [hA.out]; try kernel_rfl)
        ⟩
        have Z3 : Kept (∀ (l2 : Option Addr) (d2 : Nat) (b117 : Nat) (b111 : Nat) (wq : World), Hid (Mem w7 wq [rowR 3 1 (.slice (some ⟨b117, 0, none⟩) 1 1) 1 [.int .i64 (rg : Int)], rowR 9 1 (.slice l2 (LS.length + 1) d2) (LS.length + 1) (LS.map Value.string ++ [.string { data := #[117, 110, 117, 115, 117, 97, 108] }]), rowR 3 1 (.slice a1 LT.length e1) LT.length (LT.map (Value.int .i64)), cellsR b11 33 #[.int .i64 3, .string { data := #[] }, .slice a1 LT.length e1, .slice l1 LS.length d1, .bool false], RM, RG]) → G 5 (bt 15 1535) ((((a0.put (some 111) (.slice (some ⟨b111, 0, none⟩) 1 1)).put (some 112) (.slice l2 (LS.length + 1) d2)).put (some 117) (.slice (some ⟨b117, 0, none⟩) 1 1)).put (some 119) (.pointer (some ⟨b11, 3, none⟩))) wq) := ⟨by
         intro l2 d2 b117 b111 wq HC
         refine into_G hG ?_
         rw [hA.out]
         have hH := cS.is (w := wq) (HSP.out _ HC.out.below (HC.out.cell 3 rfl 3 rfl) (HC.out.cell 3 rfl 2 rfl))
         refine lOne 9 (by kernel_rfl) ?_
         ·
          refine LStep.app (some 118) (.tmp 114) (.tmp 117) 30 (by kernel_rfl) 3 ji _ 1 8 Tryz.underlying30 L1.out L2.out L3.out L4.out rfl (by omega) (.slice a1 LT.length e1) LT.length (LT.map (Value.int .i64)) (by kernel_rfl) (HC.out.row 2 rfl) (some ⟨b117, 0, none⟩) 1 1 [.int .i64 (rg : Int)] (by kernel_rfl) (nrow1 (HC.out.row 0 rfl)) (by simp [Value.oneCell']) (by unfold maxLen; omega) (by omega) ?_
          intro v' wr hown4 hgrow4 hat4
          have M4 := HC.out.grow 2 rfl hgrow4 hown4 hat4
          obtain ⟨a2, e2, rfl, _⟩ := M4.val 2 rfl
          have HN := Tre.hid (M4.del 0)
          clear M4 hown4 hgrow4 hat4
          refine ⟨HSP.out _ HN.out.below (HN.out.cell 2 rfl 3 rfl) (HN.out.cell 2 rfl 2 rfl), fun hH2 => ?_⟩
          exact outof_G hG (Z2.out l2 d2 a2 e2 b111 b117 wr HN) (by kernel_rfl) (by rw [hA.out]; try kernel_rfl)
        ⟩
        have Z4 : Kept (∀ (l2 : Option Addr) (d2 : Nat) (b111 : Nat) (wq : World), Hid (Mem w7 wq [rowR 9 1 (.slice l2 (LS.length + 1) d2) (LS.length + 1) (LS.map Value.string ++ [.string { data := #[117, 110, 117, 115, 117, 97, 108] }]), rowR 3 1 (.slice a1 LT.length e1) LT.length (LT.map (Value.int .i64)), cellsR b11 33 #[.int .i64 3, .string { data := #[] }, .slice a1 LT.length e1, .slice l1 LS.length d1, .bool false], RM, RG]) → G 6 (bt 15 1279) (((a0.put (some 111) (.slice (some ⟨b111, 0, none⟩) 1 1)).put (some 112) (.slice l2 (LS.length + 1) d2)).put (some 119) (.pointer (some ⟨b11, 3, none⟩))) wq) := ⟨by
         intro l2 d2 b111 wq HC
         refine into_G hG ?_
         rw [hA.out]
         have hH := cS.is (w := wq) (HSP.out _ HC.out.below (HC.out.cell 2 rfl 3 rfl) (HC.out.cell 2 rfl 2 rfl))
         refine lOne 8 (by kernel_rfl) ?_
         ·
          have HN := Tre.hid (HC.out.allocRow #[.int .i64 (rg : Int)] 3 1 1 (by unfold maxLen; omega) rfl)
          have hH2 := cS.is (w := (wq.alloc (.cells #[.int .i64 (rg : Int)] 3))) (HSP.out _ HN.out.below (HN.out.cell 3 rfl 3 rfl) (HN.out.cell 3 rfl 2 rfl))
          refine LStep.made (some 117) (.slice (some ⟨wq.heap.size, 0, none⟩) 1 1) _ (by kernel_rfl) (by kernel_rfl) hH2 ?_
          exact outof_G hG (Z3.out l2 d2 wq.heap.size b111 _ HN) (by kernel_rfl) (by rw [hA.out]; try kernel_rfl)
        ⟩
        have Z5 : Kept (∀ (b111 : Nat) (b117 : Nat) (wq : World), Hid (Mem w7 wq [rowR 9 1 (.slice (some ⟨b111, 0, none⟩) 1 1) 1 [.string { data := #[117, 110, 117, 115, 117, 97, 108] }], rowR 3 1 (.slice (some ⟨b117, 0, none⟩) 1 1) 1 [.int .i64 (rg : Int)], rowR 9 1 (.slice l1 LS.length d1) LS.length (LS.map Value.string), rowR 3 1 (.slice a1 LT.length e1) LT.length (LT.map (Value.int .i64)), cellsR b11 33 #[.int .i64 3, .string { data := #[] }, .slice a1 LT.length e1, .slice l1 LS.length d1, .bool false], RM, RG]) → G 7 (bt 15 503) ((a0.put (some 111) (.slice (some ⟨b111, 0, none⟩) 1 1)).put (some 117) (.slice (some ⟨b117, 0, none⟩) 1 1)) wq) := ⟨by
         intro b111 b117 wq HC
         refine into_G hG ?_
         rw [hA.out]
         have hH := cS.is (w := wq) (HSP.out _ HC.out.below (HC.out.cell 4 rfl 3 rfl) (HC.out.cell 4 rfl 2 rfl))
         refine lOne 3 (by kernel_rfl) ?_
         ·
          refine LStep.app (some 112) (.tmp 110) (.tmp 111) 31 (by kernel_rfl) 9 si _ 1 16 Tryz.underlying31 S1.out S2.out S3.out S4.out rfl (by omega) (.slice l1 LS.length d1) LS.length (LS.map Value.string) (by kernel_rfl) (HC.out.row 2 rfl) (some ⟨b111, 0, none⟩) 1 1 [.string { data := #[117, 110, 117, 115, 117, 97, 108] }] (by kernel_rfl) (nrow1 (HC.out.row 0 rfl)) (by simp [Value.oneCell']) (by unfold maxLen; omega) (by omega) ?_
          intro v' wr hown4 hgrow4 hat4
          have M4 := HC.out.grow 2 rfl hgrow4 hown4 hat4
          obtain ⟨l2, d2, rfl, _⟩ := M4.val 2 rfl
          have HN := Tre.hid (M4.del 0)
          clear M4 hown4 hgrow4 hat4
          refine ⟨HSP.out _ HN.out.below (HN.out.cell 3 rfl 3 rfl) (HN.out.cell 3 rfl 2 rfl), fun hH2 => ?_⟩
          refine lPv 10 (some 119) (.pointer (some ⟨b11, 3, none⟩)) (keep_of hH2) ?_
          exact outof_G hG (Z3.out l2 d2 b117 b111 wr HN) (by kernel_rfl) (by rw [hA.out]; try kernel_rfl)
        ⟩
        have Z6 : Kept (∀ (b111 : Nat) (wq : World), Hid (Mem w7 wq [rowR 9 1 (.slice (some ⟨b111, 0, none⟩) 1 1) 1 [.string { data := #[117, 110, 117, 115, 117, 97, 108] }], rowR 9 1 (.slice l1 LS.length d1) LS.length (LS.map Value.string), rowR 3 1 (.slice a1 LT.length e1) LT.length (LT.map (Value.int .i64)), cellsR b11 33 #[.int .i64 3, .string { data := #[] }, .slice a1 LT.length e1, .slice l1 LS.length d1, .bool false], RM, RG]) → G 8 (bt 15 247) (a0.put (some 111) (.slice (some ⟨b111, 0, none⟩) 1 1)) wq) := ⟨by
         intro b111 wq HC
         refine into_G hG ?_
         rw [hA.out]
         have hH := cS.is (w := wq) (HSP.out _ HC.out.below (HC.out.cell 3 rfl 3 rfl) (HC.out.cell 3 rfl 2 rfl))
         refine lTwo 3 8 (by kernel_rfl) ?_ ?_
         ·
          refine LStep.app (some 112) (.tmp 110) (.tmp 111) 31 (by kernel_rfl) 9 si _ 1 16 Tryz.underlying31 S1.out S2.out S3.out S4.out rfl (by omega) (.slice l1 LS.length d1) LS.length (LS.map Value.string) (by kernel_rfl) (HC.out.row 1 rfl) (some ⟨b111, 0, none⟩) 1 1 [.string { data := #[117, 110, 117, 115, 117, 97, 108] }] (by kernel_rfl) (nrow1 (HC.out.row 0 rfl)) (by simp [Value.oneCell']) (by unfold maxLen; omega) (by omega) ?_
          intro v' wr hown4 hgrow4 hat4
          have M4 := HC.out.grow 1 rfl hgrow4 hown4 hat4
          obtain ⟨l2, d2, rfl, _⟩ := M4.val 1 rfl
          have HN := Tre.hid (M4.del 0)
          clear M4 hown4 hgrow4 hat4
          refine ⟨HSP.out _ HN.out.below (HN.out.cell 2 rfl 3 rfl) (HN.out.cell 2 rfl 2 rfl), fun hH2 => ?_⟩
          refine lPv 10 (some 119) (.pointer (some ⟨b11, 3, none⟩)) (keep_of hH2) ?_
          exact outof_G hG (Z4.out l2 d2 b111 wr HN) (by kernel_rfl) (by rw [hA.out]; try kernel_rfl)
         ·
          have HN := Tre.hid (HC.out.allocRow #[.int .i64 (rg : Int)] 3 1 1 (by unfold maxLen; omega) rfl)
          have HC := Tre.hid ((HN.out.front 0 rfl).front 1 rfl)
          clear HN
          have hH2 := cS.is (w := (wq.alloc (.cells #[.int .i64 (rg : Int)] 3))) (HSP.out _ HC.out.below (HC.out.cell 4 rfl 3 rfl) (HC.out.cell 4 rfl 2 rfl))
          refine LStep.made (some 117) (.slice (some ⟨wq.heap.size, 0, none⟩) 1 1) _ (by kernel_rfl) (by kernel_rfl) hH2 ?_
          exact outof_G hG (Z5.out b111 wq.heap.size _ HC) (by kernel_rfl) (by rw [hA.out]; try kernel_rfl)
        ⟩
        have Z7 : Kept (∀ (b117 : Nat) (wq : World), Hid (Mem w7 wq [rowR 3 1 (.slice (some ⟨b117, 0, none⟩) 1 1) 1 [.int .i64 (rg : Int)], rowR 9 1 (.slice l1 LS.length d1) LS.length (LS.map Value.string), rowR 3 1 (.slice a1 LT.length e1) LT.length (LT.map (Value.int .i64)), cellsR b11 33 #[.int .i64 3, .string { data := #[] }, .slice a1 LT.length e1, .slice l1 LS.length d1, .bool false], RM, RG]) → G 8 (bt 15 499) (a0.put (some 117) (.slice (some ⟨b117, 0, none⟩) 1 1)) wq) := ⟨by
         intro b117 wq HC
         refine into_G hG ?_
         rw [hA.out]
         have hH := cS.is (w := wq) (HSP.out _ HC.out.below (HC.out.cell 3 rfl 3 rfl) (HC.out.cell 3 rfl 2 rfl))
         refine lOne 2 (by kernel_rfl) ?_
         ·
          have HN := Tre.hid (HC.out.allocRow #[.string { data := #[117, 110, 117, 115, 117, 97, 108] }] 9 1 1 (by unfold maxLen; omega) rfl)
          have hH2 := cS.is (w := (wq.alloc (.cells #[.string { data := #[117, 110, 117, 115, 117, 97, 108] }] 9))) (HSP.out _ HN.out.below (HN.out.cell 4 rfl 3 rfl) (HN.out.cell 4 rfl 2 rfl))
          refine LStep.made (some 111) (.slice (some ⟨wq.heap.size, 0, none⟩) 1 1) _ (by kernel_rfl) (by kernel_rfl) hH2 ?_
          exact outof_G hG (Z5.out wq.heap.size b117 _ HN) (by kernel_rfl) (by rw [hA.out]; try kernel_rfl)
        ⟩
        have Z8 : Kept (∀ (wq : World), Hid (Mem w7 wq [rowR 9 1 (.slice l1 LS.length d1) LS.length (LS.map Value.string), rowR 3 1 (.slice a1 LT.length e1) LT.length (LT.map (Value.int .i64)), cellsR b11 33 #[.int .i64 3, .string { data := #[] }, .slice a1 LT.length e1, .slice l1 LS.length d1, .bool false], RM, RG]) → G 9 (bt 15 243) (a0) wq) := ⟨by
         intro  wq HC
         refine into_G hG ?_
         rw [hA.out]
         have hH := cS.is (w := wq) (HSP.out _ HC.out.below (HC.out.cell 2 rfl 3 rfl) (HC.out.cell 2 rfl 2 rfl))
         refine lTwo 2 8 (by kernel_rfl) ?_ ?_
         ·
          have HN := Tre.hid (HC.out.allocRow #[.string { data := #[117, 110, 117, 115, 117, 97, 108] }] 9 1 1 (by unfold maxLen; omega) rfl)
          have hH2 := cS.is (w := (wq.alloc (.cells #[.string { data := #[117, 110, 117, 115, 117, 97, 108] }] 9))) (HSP.out _ HN.out.below (HN.out.cell 3 rfl 3 rfl) (HN.out.cell 3 rfl 2 rfl))
          refine LStep.made (some 111) (.slice (some ⟨wq.heap.size, 0, none⟩) 1 1) _ (by kernel_rfl) (by kernel_rfl) hH2 ?_
          exact outof_G hG (Z6.out wq.heap.size _ HN) (by kernel_rfl) (by rw [hA.out]; try kernel_rfl)
         ·
          have HN := Tre.hid (HC.out.allocRow #[.int .i64 (rg : Int)] 3 1 1 (by unfold maxLen; omega) rfl)
          have hH2 := cS.is (w := (wq.alloc (.cells #[.int .i64 (rg : Int)] 3))) (HSP.out _ HN.out.below (HN.out.cell 3 rfl 3 rfl) (HN.out.cell 3 rfl 2 rfl))
          refine LStep.made (some 117) (.slice (some ⟨wq.heap.size, 0, none⟩) 1 1) _ (by kernel_rfl) (by kernel_rfl) hH2 ?_
          exact outof_G hG (Z7.out wq.heap.size _ HN) (by kernel_rfl) (by rw [hA.out]; try kernel_rfl)
        ⟩
        exact Z8.out  wq0 HC
     ·have e : k = X.labels.length := by omega
      subst e
      have h3x := HXK.out
      have hdx := HDX.out h3x
      have hol := hOW.out.len (Nat.le_refl _) hdx.1.symm
      have hsl : LS.length ≤ 1048577 := by omega
      have htl : LT.length ≤ 1048577 := by omega
      obtain ⟨j, hj, q1, q2, hlo, hhi⟩ := hOW.out.at_end hdx.1.symm hdx.2
      have HFIN : Hid ((∀ (a9 : Option Addr) (c9 : Nat) (wa W : World), NodesAt wa a9 (moreG g j unB).ns → Below w7.heap.size w7 wa → Below wa.heap.size wa W → Calls Tryz.prog 12 #[.agg #[.slice a9 (n + 1) c9, .int .i64 (n : Int)], .agg #[.slice (some ⟨gB, oB, none⟩) m cb, .int .i64 (rh : Int)]] W fun e w' => e = .returned (.bool true) ∧ Below W.heap.size W w') ∧
        (∀ (a9 : Option Addr) (c9 : Nat) (wa W : World), NodesAt wa a9 (moreG g j unB).ns → Below w7.heap.size w7 wa → Below wa.heap.size wa W → Calls Tryz.prog 12 #[.agg #[.slice a9 (n + 1) c9, .int .i64 (n : Int)], .agg #[.slice (some ⟨gA, oA, none⟩) n ca, .int .i64 (rg : Int)]] W fun e w' => e = .returned (.bool true) ∧ Below W.heap.size W w')) := by
       have og := Graph.ok_of Cg.out.1
       have h3g : (g.nd g.root.toNat).kind = 3 := by rw [HEG.out, HXE.out]; exact h3x
       have hjg : j ≤ (g.nd g.root.toNat).labels.length := by rw [HEG.out, HXE.out]; exact hj
       have hja : j ≤ (g.nd g.root.toNat).args.length := by rw [HEG.out, HXE.out, ← hdx.1]; exact hj
       have hmm := more_may og h3g un_name hjg (by rw [HEG.out, HXE.out]; exact hlo) (by rw [HEG.out, HXE.out]; exact hhi)
       have hlen : (moreG g j unB).ns.length = n + 1 := by show (topG g _).ns.length = _; rw [top_len, HNG.out]
       have cR : (moreG g j unB).checkC = 0 := top_ok Cg.out.1 (mayB_mono (by omega) hmm) (by rw [HNG.out]; omega)
       have sR : (moreG g j unB).Shut := more_shut og (shut_of Cg.out.1 Cg.out.2) hja
       have wR := more_weight og h3g hjg
       have hWG := HWG.out
       have hlg := LG.out
       have hWH := HWH.out
       have rR : (moreG g j unB).root = (n : Int) := by show ((g.ns.length : Nat) : Int) = _; rw [HNG.out]
       have hnew : unB ∉ (g.nd g.root.toNat).labels := by
        rw [HEG.out, HXE.out]
        intro hm
        obtain ⟨t, ht⟩ := List.getElem?_of_mem hm
        by_cases htj : t < j
        ·have := hlo t unB htj ht; rw [less_irrefl] at this; cases this
        ·have := hhi t unB (by omega) ht; rw [less_irrefl] at this; cases this
       have kG : subB (moreG g j unB) g = true := more_sub Cg.out.1 h3g hjg cR hnew
       have kH : subB (moreG g j unB) h = true := sub_trans cR Cg.out.1 Ch.out.1 kG HS.out
       refine ⟨fun a9 c9 wa W NM hb hW => ?_, fun a9 c9 wa W NM hb hW => ?_⟩
       ·have hB := below_below (below_below HB7.out hb) hW
        have K := mays_any a9 (some ⟨gB, oB, none⟩) c9 cb (moreG g j unB) h W (NM.below hW) (HH.out.below hB) (by omega) (by omega) (by rw [hlen]; omega) (by rw [HNH.out]; omega) (HX.out.below hB) cR Ch.out.1 sR (shut_of Ch.out.1 Ch.out.2)
        rw [kH, hlen, rR, HNH.out, HRH.out] at K
        exact K
       ·have hB := below_below (below_below HB7.out hb) hW
        have K := mays_any a9 (some ⟨gA, oA, none⟩) c9 ca (moreG g j unB) g W (NM.below hW) (HG.out.below hB) (by omega) (by omega) (by rw [hlen]; omega) (by rw [HNG.out]; omega) (HX.out.below hB) cR Cg.out.1 sR (shut_of Cg.out.1 Cg.out.2)
        rw [kG, hlen, rR, HNG.out, HRG.out] at K
        exact K
      clear h3x hdx hol hlo hhi hOW hj
      cases dn with
      | true =>
       have HS2 : Hid (LS = X.labels.insertIdx j unB) := q1
       have HT2 : Hid (LT = X.args.insertIdx j g.root) := by show _ = _; rw [HRG.out]; exact q2
       clear q1 q2
       have HR := HI
       have hRR := HR.out
       rw [← HRM.out, ← HRG'.out] at hRR
       have HR := Tre.hid hRR
       clear hRR
       obtain ⟨o0, o1, o2, o3, o4⟩ := five HR.out 2 rfl
       obtain ⟨p0, p1⟩ := HR.out.two 3 rfl
       have MB := Tre.hid (HR.out.allocRow #[.int .i64 3, .string { data := #[] }, .slice a1 LT.length e1, .slice l1 LS.length d1, .bool false] 33 5 1 (by unfold maxLen; omega) rfl)
       go_upto_region 26 with (at_builtin; refine wpList_append_row _ rfl _ _ 22 rfl 33 ni _ 5 80 Tryz.underlying22 J1.out J2.out J3.out J4.out rfl (by omega) (.slice a85 n c85) n (dg.flatMap NodeV.cells) rfl (MB.out.row 5 rfl) (some ⟨wr.heap.size, 0, none⟩) 1 1 (#[.int .i64 3, .string { data := #[] }, .slice a1 LT.length e1, .slice l1 LS.length d1, .bool false]).toList rfl (nrow5 (MB.out.row 0 rfl)) (own_one _ _ _ _ _ _) (by unfold maxLen; omega) (by omega) ?_; intro v' w9 hown4 hgrow4 hat4; have M4 := MB.out.grow 5 rfl hgrow4 hown4 hat4; obtain ⟨a9, c9, rfl, _⟩ := M4.val 5 rfl; have q6 := M4.cell 4 rfl 0 rfl; have f6 := M4.free 4 rfl 0; have HM4 := Tre.hid (M4.setCell 4 rfl 0 (.slice a9 (n + 1) c9)); clear M4 hown4 hgrow4 hat4)
       clear o0 o1 o2 o3 o4 p0 p1 q6 f6 MB
       generalize hw : w9.setCell ⟨b10, 0, none⟩ (.slice a9 (n + 1) c9) = wa at HM4 ⊢
       clear hw
       have NM := more_nodes HM4.out.below (HM4.out.at_ 5 rfl) (HM4.out.at_ 1 rfl) (HM4.out.at_ 2 rfl) HS2.out HT2.out LDG.out HDG.out (fun d hd => (HVG.out d hd).below HB7.out) HXE.out HEG.out HRG.out
       have HKH : Hid (∀ W, Below wa.heap.size wa W → Calls Tryz.prog 12 #[.agg #[.slice a9 (n + 1) c9, .int .i64 (n : Int)], .agg #[.slice (some ⟨gB, oB, none⟩) m cb, .int .i64 (rh : Int)]] W fun e w' => e = .returned (.bool true) ∧ Below W.heap.size W w') := fun W hW => HFIN.out.1 a9 c9 wa W NM HM4.out.below hW
       have HKG : Hid (∀ W, Below wa.heap.size wa W → Calls Tryz.prog 12 #[.agg #[.slice a9 (n + 1) c9, .int .i64 (n : Int)], .agg #[.slice (some ⟨gA, oA, none⟩) n ca, .int .i64 (rg : Int)]] W fun e w' => e = .returned (.bool true) ∧ Below W.heap.size W w') := fun W hW => HFIN.out.2 a9 c9 wa W NM HM4.out.below hW
       have HBA := Tre.hid (below_below HB7.out HM4.out.below)
       obtain ⟨p0, p1⟩ := HM4.out.two 4 rfl
       have P100 := Tre.hid p0
       have P101 := Tre.hid p1
       have p40 := cell_below HM4.out.below P40.out
       have p41 := cell_below HM4.out.below P41.out
       have P30 := Tre.hid (cell_below HM4.out.below P30.out)
       have P31 := Tre.hid (cell_below HM4.out.below P31.out)
       clear NM HM4 HR
       go_wp2_with fail
       refine (HKH.out _ (Below.refl _ _)).mono ?_
       rintro e wb ⟨rfl, bq⟩
       have HQB := Tre.hid bq
       clear bq p0 p1 p40 p41
       have p0 := cell_below HQB.out P100.out
       have p1 := cell_below HQB.out P101.out
       have p30 := cell_below HQB.out P30.out
       have p31 := cell_below HQB.out P31.out
       go_wp2_with fail
       refine (HKG.out _ HQB.out).mono ?_
       rintro e wc ⟨rfl, bq⟩
       have HQC := Tre.hid bq
       clear bq p0 p1 p30 p31
       go_wp2_with fail
       go_ret
       exact ⟨rfl, below_below HBA.out (below_below HQB.out HQC.out)⟩
      | false =>
       have HR := HI
       go_upto_region 24 with fail
       have HSP : Hid (∀ W, Below w7.heap.size w7 W → W.cell? ⟨b11, 3, none⟩ = some (.slice l1 LS.length d1) → W.cell? ⟨b11, 2, none⟩ = some (.slice a1 LT.length e1) → (fun w' => w'.cell? ⟨b11, 3, none⟩ = some (.slice l1 LS.length d1) ∧ w'.cell? ⟨b11, 2, none⟩ = some (.slice a1 LT.length e1) ∧ w'.cell? ⟨w.heap.size, 1, none⟩ = some (.int .i64 (rg : Int))) W) := fun W hW h3 h2 => ⟨h3, h2, cell_below hW P31.out⟩
       have cS : Cond (fun w' => w'.cell? ⟨b11, 3, none⟩ = some (.slice l1 LS.length d1) ∧ w'.cell? ⟨b11, 2, none⟩ = some (.slice a1 LT.length e1) ∧ w'.cell? ⟨w.heap.size, 1, none⟩ = some (.int .i64 (rg : Int))) := ⟨⟩
       refine cS.keep [11] ?_ (fun hH => ?_)
       ·exact HSP.out _ HR.out.drew.below (HR.out.drew.cell 2 rfl 3 rfl) (HR.out.drew.cell 2 rfl 2 rfl)
       have HC := Tre.hid HR.out.drew
       generalize hq : World.drew _ = wq0 at HC hH ⊢
       clear hq
       refine lPv 0 (some 145) (.pointer (some ⟨b11, 3, none⟩)) (keep_of hH) ?_
       try simp only [Act.put, zqf, zqg, zqh]
       refine lTq 1 (some 146) (v := ?_) rfl ?_ hH ?_
       rotate_left
       ·intro w hSw; (try dsimp only at hSw); go_simp <;> with_reducible rfl
       try simp only [Act.put, zqf, zqg, zqh]
       refine lPv 4 (some 149) (.pointer (some ⟨b11, 2, none⟩)) (keep_of hH) ?_
       try simp only [Act.put, zqf, zqg, zqh]
       refine lTq 5 (some 150) (v := ?_) rfl ?_ hH ?_
       rotate_left
       ·intro w hSw; (try dsimp only at hSw); go_simp <;> with_reducible rfl
       try simp only [Act.put, zqf, zqg, zqh]
       refine lPv 6 (some 151) (.pointer (some ⟨w.heap.size, 1, none⟩)) (keep_of hH) ?_
       try simp only [Act.put, zqf, zqg, zqh]
       refine lTq 7 (some 152) (v := ?_) rfl ?_ hH ?_
       rotate_left
       ·intro w hSw; (try dsimp only at hSw); go_simp <;> with_reducible rfl
       try simp only [Act.put, zqf, zqg, zqh]
       try simp only [Act.put, zqf, zqg, zqh]
       refine with_G (G0 := wpAnyL _ _ _ _ _ _) ?_
       intro G hG a0 hA
       have Z0 : Kept (∀ (l2 : Option Addr) (d2 : Nat) (a2 : Option Addr) (e2 : Nat) (b147 : Nat) (b153 : Nat) (wq : World), Hid (Mem w7 wq [rowR 9 1 (.slice l2 (LS.length + 1) d2) (LS.length + 1) (LS.map Value.string ++ [.string { data := #[117, 110, 117, 115, 117, 97, 108] }]), rowR 3 1 (.slice a2 (LT.length + 1) e2) (LT.length + 1) (LT.map (Value.int .i64) ++ [.int .i64 (rg : Int)]), cellsR b11 33 #[.int .i64 3, .string { data := #[] }, .slice a2 (LT.length + 1) e2, .slice l2 (LS.length + 1) d2, .bool false], RM, RG]) → G 0 (bt 14 16383) ((((((a0.put (some 147) (.slice (some ⟨b147, 0, none⟩) 1 1)).put (some 148) (.slice l2 (LS.length + 1) d2)).put (some 153) (.slice (some ⟨b153, 0, none⟩) 1 1)).put (some 154) (.slice a2 (LT.length + 1) e2)).put (some 155) (.pointer (some ⟨b11, 3, none⟩))).put (some 156) (.pointer (some ⟨b11, 2, none⟩))) wq) := ⟨by
        intro l2 d2 a2 e2 b147 b153 wq HC
        refine into_G hG ?_
        rw [hA.out]
        try simp only [Act.put, zqf, zqg, zqh]
        refine lDone (by kernel_rfl) ?_
        clear hA hG
        obtain ⟨LS2, hS2⟩ : ∃ L, LS ++ [unB] = L := ⟨_, rfl⟩
        obtain ⟨LT2, hT2⟩ : ∃ L, LT ++ [(rg : Int)] = L := ⟨_, rfl⟩
        have el : LS.length + 1 = LS2.length := by rw [← hS2, List.length_append]; rfl
        have et : LT.length + 1 = LT2.length := by rw [← hT2, List.length_append]; rfl
        have HR : Hid (Mem w7 wq [rowR 9 1 (.slice l2 LS2.length d2) LS2.length (LS2.map Value.string), rowR 3 1 (.slice a2 LT2.length e2) LT2.length (LT2.map (Value.int .i64)), cellsR b11 33 #[.int .i64 3, .string { data := #[] }, .slice a2 LT2.length e2, .slice l2 LS2.length d2, .bool false], RM, RG]) := by
         have h := HC.out
         rw [el, et] at h
         show Mem w7 wq _
         rw [show LS2.map Value.string = LS.map Value.string ++ [.string { data := #[117, 110, 117, 115, 117, 97, 108] }] by rw [← hS2, List.map_append]; rfl, show LT2.map (Value.int .i64) = LT.map (Value.int .i64) ++ [.int .i64 (rg : Int)] by rw [← hT2, List.map_append]; rfl]
         exact h
        rw [el, et]
        clear HC
        have HS2 : Hid (LS2 = X.labels.insertIdx j unB) := by show _ = _; rw [← hS2]; exact q1
        have HT2 : Hid (LT2 = X.args.insertIdx j g.root) := by show _ = _; rw [← hT2, HRG.out]; exact q2
        have hsl2 : LS2.length ≤ 1048578 := by omega
        have htl2 : LT2.length ≤ 1048578 := by omega
        clear hS2 hT2 el et q1 q2
        have hRR := HR.out
        rw [← HRM.out, ← HRG'.out] at hRR
        have HR := Tre.hid hRR
        clear hRR
        obtain ⟨o0, o1, o2, o3, o4⟩ := five HR.out 2 rfl
        obtain ⟨p0, p1⟩ := HR.out.two 3 rfl
        have MB := Tre.hid (HR.out.allocRow #[.int .i64 3, .string { data := #[] }, .slice a2 LT2.length e2, .slice l2 LS2.length d2, .bool false] 33 5 1 (by unfold maxLen; omega) rfl)
        go_upto_region 26 with (at_builtin; refine wpList_append_row _ rfl _ _ 22 rfl 33 ni _ 5 80 Tryz.underlying22 J1.out J2.out J3.out J4.out rfl (by omega) (.slice a85 n c85) n (dg.flatMap NodeV.cells) rfl (MB.out.row 5 rfl) (some ⟨wq.heap.size, 0, none⟩) 1 1 (#[.int .i64 3, .string { data := #[] }, .slice a2 LT2.length e2, .slice l2 LS2.length d2, .bool false]).toList rfl (nrow5 (MB.out.row 0 rfl)) (own_one _ _ _ _ _ _) (by unfold maxLen; omega) (by omega) ?_; intro v' w9 hown4 hgrow4 hat4; have M4 := MB.out.grow 5 rfl hgrow4 hown4 hat4; obtain ⟨a9, c9, rfl, _⟩ := M4.val 5 rfl; have q6 := M4.cell 4 rfl 0 rfl; have f6 := M4.free 4 rfl 0; have HM4 := Tre.hid (M4.setCell 4 rfl 0 (.slice a9 (n + 1) c9)); clear M4 hown4 hgrow4 hat4)
        clear o0 o1 o2 o3 o4 p0 p1 q6 f6 MB
        generalize hw : w9.setCell ⟨b10, 0, none⟩ (.slice a9 (n + 1) c9) = wa at HM4 ⊢
        clear hw
        have NM := more_nodes HM4.out.below (HM4.out.at_ 5 rfl) (HM4.out.at_ 1 rfl) (HM4.out.at_ 2 rfl) HS2.out HT2.out LDG.out HDG.out (fun d hd => (HVG.out d hd).below HB7.out) HXE.out HEG.out HRG.out
        have HKH : Hid (∀ W, Below wa.heap.size wa W → Calls Tryz.prog 12 #[.agg #[.slice a9 (n + 1) c9, .int .i64 (n : Int)], .agg #[.slice (some ⟨gB, oB, none⟩) m cb, .int .i64 (rh : Int)]] W fun e w' => e = .returned (.bool true) ∧ Below W.heap.size W w') := fun W hW => HFIN.out.1 a9 c9 wa W NM HM4.out.below hW
        have HKG : Hid (∀ W, Below wa.heap.size wa W → Calls Tryz.prog 12 #[.agg #[.slice a9 (n + 1) c9, .int .i64 (n : Int)], .agg #[.slice (some ⟨gA, oA, none⟩) n ca, .int .i64 (rg : Int)]] W fun e w' => e = .returned (.bool true) ∧ Below W.heap.size W w') := fun W hW => HFIN.out.2 a9 c9 wa W NM HM4.out.below hW
        have HBA := Tre.hid (below_below HB7.out HM4.out.below)
        obtain ⟨p0, p1⟩ := HM4.out.two 4 rfl
        have P100 := Tre.hid p0
        have P101 := Tre.hid p1
        have p40 := cell_below HM4.out.below P40.out
        have p41 := cell_below HM4.out.below P41.out
        have P30 := Tre.hid (cell_below HM4.out.below P30.out)
        have P31 := Tre.hid (cell_below HM4.out.below P31.out)
        clear NM HM4 HR
        go_wp2_with fail
        refine (HKH.out _ (Below.refl _ _)).mono ?_
        rintro e wb ⟨rfl, bq⟩
        have HQB := Tre.hid bq
        clear bq p0 p1 p40 p41
        have p0 := cell_below HQB.out P100.out
        have p1 := cell_below HQB.out P101.out
        have p30 := cell_below HQB.out P30.out
        have p31 := cell_below HQB.out P31.out
        go_wp2_with fail
        refine (HKG.out _ HQB.out).mono ?_
        rintro e wc ⟨rfl, bq⟩
        have HQC := Tre.hid bq
        clear bq p0 p1 p30 p31
        go_wp2_with fail
        go_ret
        exact ⟨rfl, below_below HBA.out (below_below HQB.out HQC.out)⟩
       ⟩
       have Z1 : Kept (∀ (l2 : Option Addr) (d2 : Nat) (a2 : Option Addr) (e2 : Nat) (b147 : Nat) (b153 : Nat) (wq : World), Hid (Mem w7 wq [rowR 9 1 (.slice l2 (LS.length + 1) d2) (LS.length + 1) (LS.map Value.string ++ [.string { data := #[117, 110, 117, 115, 117, 97, 108] }]), rowR 3 1 (.slice a2 (LT.length + 1) e2) (LT.length + 1) (LT.map (Value.int .i64) ++ [.int .i64 (rg : Int)]), cellsR b11 33 #[.int .i64 3, .string { data := #[] }, .slice a1 LT.length e1, .slice l2 (LS.length + 1) d2, .bool false], RM, RG]) → G 1 (bt 14 8191) ((((((a0.put (some 147) (.slice (some ⟨b147, 0, none⟩) 1 1)).put (some 148) (.slice l2 (LS.length + 1) d2)).put (some 153) (.slice (some ⟨b153, 0, none⟩) 1 1)).put (some 154) (.slice a2 (LT.length + 1) e2)).put (some 155) (.pointer (some ⟨b11, 3, none⟩))).put (some 156) (.pointer (some ⟨b11, 2, none⟩))) wq) := ⟨by
        intro l2 d2 a2 e2 b147 b153 wq HC
        refine into_G hG ?_
        rw [hA.out]
        try simp only [Act.put, zqf, zqg, zqh]
        refine lOne 13 (by kernel_rfl) ?_
        ·
         refine (LFall.op (by kernel_rfl) (fun K hK => ?_))
         have z0 := HC.out.free 2 rfl 2
         obtain ⟨y0, y1, y2, y3, y4⟩ := five HC.out 2 rfl
         have HN := Tre.hid (HC.out.setCell 2 rfl 2 (.slice a2 (LT.length + 1) e2))
         go_simp
         clear z0 y0 y1 y2 y3 y4
         generalize hw : World.setCell _ ⟨b11, 2, none⟩ _ = wr at HN ⊢
         clear hw
         refine hK.out _ _ ?_
         exact outof_G hG (Z0.out l2 d2 a2 e2 b147 b153 wr HN) (by kernel_rfl) (by rw [hA.out]; try kernel_rfl)
       ⟩
       have Z2 : Kept (∀ (l2 : Option Addr) (d2 : Nat) (a2 : Option Addr) (e2 : Nat) (b147 : Nat) (b153 : Nat) (wq : World), Hid (Mem w7 wq [rowR 9 1 (.slice l2 (LS.length + 1) d2) (LS.length + 1) (LS.map Value.string ++ [.string { data := #[117, 110, 117, 115, 117, 97, 108] }]), rowR 3 1 (.slice a2 (LT.length + 1) e2) (LT.length + 1) (LT.map (Value.int .i64) ++ [.int .i64 (rg : Int)]), cellsR b11 33 #[.int .i64 3, .string { data := #[] }, .slice a1 LT.length e1, .slice l1 LS.length d1, .bool false], RM, RG]) → G 3 (bt 14 2047) (((((a0.put (some 147) (.slice (some ⟨b147, 0, none⟩) 1 1)).put (some 148) (.slice l2 (LS.length + 1) d2)).put (some 153) (.slice (some ⟨b153, 0, none⟩) 1 1)).put (some 154) (.slice a2 (LT.length + 1) e2)).put (some 155) (.pointer (some ⟨b11, 3, none⟩))) wq) := ⟨by
        intro l2 d2 a2 e2 b147 b153 wq HC
        refine into_G hG ?_
        rw [hA.out]
        try simp only [Act.put, zqf, zqg, zqh]
        have hH := cS.is (w := wq) (HSP.out _ HC.out.below (HC.out.cell 2 rfl 3 rfl) (HC.out.cell 2 rfl 2 rfl))
        refine lOne 11 (by kernel_rfl) ?_
        ·
         refine (LFall.op (by kernel_rfl) (fun K hK => ?_))
         have z0 := HC.out.free 2 rfl 3
         obtain ⟨y0, y1, y2, y3, y4⟩ := five HC.out 2 rfl
         have HN := Tre.hid (HC.out.setCell 2 rfl 3 (.slice l2 (LS.length + 1) d2))
         go_simp
         clear z0 y0 y1 y2 y3 y4
         generalize hw : World.setCell _ ⟨b11, 3, none⟩ _ = wr at HN ⊢
         clear hw
         refine hK.out _ _ ?_
         refine lPv 12 (some 156) (.pointer (some ⟨b11, 2, none⟩)) (keep_fell (by kernel_rfl)) ?_
         exact outof_G hG (Z1.out l2 d2 a2 e2 b147 b153 wr HN) (by kernel_rfl) (by rw [hA.out]; try kernel_rfl)
       ⟩
       have Z3 : Kept (∀ (l2 : Option Addr) (d2 : Nat) (b153 : Nat) (b147 : Nat) (wq : World), Hid (Mem w7 wq [rowR 3 1 (.slice (some ⟨b153, 0, none⟩) 1 1) 1 [.int .i64 (rg : Int)], rowR 9 1 (.slice l2 (LS.length + 1) d2) (LS.length + 1) (LS.map Value.string ++ [.string { data := #[117, 110, 117, 115, 117, 97, 108] }]), rowR 3 1 (.slice a1 LT.length e1) LT.length (LT.map (Value.int .i64)), cellsR b11 33 #[.int .i64 3, .string { data := #[] }, .slice a1 LT.length e1, .slice l1 LS.length d1, .bool false], RM, RG]) → G 4 (bt 14 1535) ((((a0.put (some 147) (.slice (some ⟨b147, 0, none⟩) 1 1)).put (some 148) (.slice l2 (LS.length + 1) d2)).put (some 153) (.slice (some ⟨b153, 0, none⟩) 1 1)).put (some 155) (.pointer (some ⟨b11, 3, none⟩))) wq) := ⟨by
        intro l2 d2 b153 b147 wq HC
        refine into_G hG ?_
        rw [hA.out]
        have hH := cS.is (w := wq) (HSP.out _ HC.out.below (HC.out.cell 3 rfl 3 rfl) (HC.out.cell 3 rfl 2 rfl))
        refine lOne 9 (by kernel_rfl) ?_
        ·
         refine LStep.app (some 154) (.tmp 150) (.tmp 153) 30 (by kernel_rfl) 3 ji _ 1 8 Tryz.underlying30 L1.out L2.out L3.out L4.out rfl (by omega) (.slice a1 LT.length e1) LT.length (LT.map (Value.int .i64)) (by kernel_rfl) (HC.out.row 2 rfl) (some ⟨b153, 0, none⟩) 1 1 [.int .i64 (rg : Int)] (by kernel_rfl) (nrow1 (HC.out.row 0 rfl)) (by simp [Value.oneCell']) (by unfold maxLen; omega) (by omega) ?_
         intro v' wr hown4 hgrow4 hat4
         have M4 := HC.out.grow 2 rfl hgrow4 hown4 hat4
         obtain ⟨a2, e2, rfl, _⟩ := M4.val 2 rfl
         have HN := Tre.hid (M4.del 0)
         clear M4 hown4 hgrow4 hat4
         refine ⟨HSP.out _ HN.out.below (HN.out.cell 2 rfl 3 rfl) (HN.out.cell 2 rfl 2 rfl), fun hH2 => ?_⟩
         exact outof_G hG (Z2.out l2 d2 a2 e2 b147 b153 wr HN) (by kernel_rfl) (by rw [hA.out]; try kernel_rfl)
       ⟩
       have Z4 : Kept (∀ (l2 : Option Addr) (d2 : Nat) (b147 : Nat) (wq : World), Hid (Mem w7 wq [rowR 9 1 (.slice l2 (LS.length + 1) d2) (LS.length + 1) (LS.map Value.string ++ [.string { data := #[117, 110, 117, 115, 117, 97, 108] }]), rowR 3 1 (.slice a1 LT.length e1) LT.length (LT.map (Value.int .i64)), cellsR b11 33 #[.int .i64 3, .string { data := #[] }, .slice a1 LT.length e1, .slice l1 LS.length d1, .bool false], RM, RG]) → G 5 (bt 14 1279) (((a0.put (some 147) (.slice (some ⟨b147, 0, none⟩) 1 1)).put (some 148) (.slice l2 (LS.length + 1) d2)).put (some 155) (.pointer (some ⟨b11, 3, none⟩))) wq) := ⟨by
        intro l2 d2 b147 wq HC
        refine into_G hG ?_
        rw [hA.out]
        have hH := cS.is (w := wq) (HSP.out _ HC.out.below (HC.out.cell 2 rfl 3 rfl) (HC.out.cell 2 rfl 2 rfl))
        refine lOne 8 (by kernel_rfl) ?_
        ·
         have HN := Tre.hid (HC.out.allocRow #[.int .i64 (rg : Int)] 3 1 1 (by unfold maxLen; omega) rfl)
         have hH2 := cS.is (w := (wq.alloc (.cells #[.int .i64 (rg : Int)] 3))) (HSP.out _ HN.out.below (HN.out.cell 3 rfl 3 rfl) (HN.out.cell 3 rfl 2 rfl))
         refine LStep.made (some 153) (.slice (some ⟨wq.heap.size, 0, none⟩) 1 1) _ (by kernel_rfl) (by kernel_rfl) hH2 ?_
         exact outof_G hG (Z3.out l2 d2 wq.heap.size b147 _ HN) (by kernel_rfl) (by rw [hA.out]; try kernel_rfl)
       ⟩
       have Z5 : Kept (∀ (b147 : Nat) (b153 : Nat) (wq : World), Hid (Mem w7 wq [rowR 9 1 (.slice (some ⟨b147, 0, none⟩) 1 1) 1 [.string { data := #[117, 110, 117, 115, 117, 97, 108] }], rowR 3 1 (.slice (some ⟨b153, 0, none⟩) 1 1) 1 [.int .i64 (rg : Int)], rowR 9 1 (.slice l1 LS.length d1) LS.length (LS.map Value.string), rowR 3 1 (.slice a1 LT.length e1) LT.length (LT.map (Value.int .i64)), cellsR b11 33 #[.int .i64 3, .string { data := #[] }, .slice a1 LT.length e1, .slice l1 LS.length d1, .bool false], RM, RG]) → G 6 (bt 14 503) ((a0.put (some 147) (.slice (some ⟨b147, 0, none⟩) 1 1)).put (some 153) (.slice (some ⟨b153, 0, none⟩) 1 1)) wq) := ⟨by
        intro b147 b153 wq HC
        refine into_G hG ?_
        rw [hA.out]
        have hH := cS.is (w := wq) (HSP.out _ HC.out.below (HC.out.cell 4 rfl 3 rfl) (HC.out.cell 4 rfl 2 rfl))
        refine lOne 3 (by kernel_rfl) ?_
        ·
         refine LStep.app (some 148) (.tmp 146) (.tmp 147) 31 (by kernel_rfl) 9 si _ 1 16 Tryz.underlying31 S1.out S2.out S3.out S4.out rfl (by omega) (.slice l1 LS.length d1) LS.length (LS.map Value.string) (by kernel_rfl) (HC.out.row 2 rfl) (some ⟨b147, 0, none⟩) 1 1 [.string { data := #[117, 110, 117, 115, 117, 97, 108] }] (by kernel_rfl) (nrow1 (HC.out.row 0 rfl)) (by simp [Value.oneCell']) (by unfold maxLen; omega) (by omega) ?_
         intro v' wr hown4 hgrow4 hat4
         have M4 := HC.out.grow 2 rfl hgrow4 hown4 hat4
         obtain ⟨l2, d2, rfl, _⟩ := M4.val 2 rfl
         have HN := Tre.hid (M4.del 0)
         clear M4 hown4 hgrow4 hat4
         refine ⟨HSP.out _ HN.out.below (HN.out.cell 3 rfl 3 rfl) (HN.out.cell 3 rfl 2 rfl), fun hH2 => ?_⟩
         refine lPv 10 (some 155) (.pointer (some ⟨b11, 3, none⟩)) (keep_of hH2) ?_
         exact outof_G hG (Z3.out l2 d2 b153 b147 wr HN) (by kernel_rfl) (by rw [hA.out]; try kernel_rfl)
       ⟩
       have Z6 : Kept (∀ (b147 : Nat) (wq : World), Hid (Mem w7 wq [rowR 9 1 (.slice (some ⟨b147, 0, none⟩) 1 1) 1 [.string { data := #[117, 110, 117, 115, 117, 97, 108] }], rowR 9 1 (.slice l1 LS.length d1) LS.length (LS.map Value.string), rowR 3 1 (.slice a1 LT.length e1) LT.length (LT.map (Value.int .i64)), cellsR b11 33 #[.int .i64 3, .string { data := #[] }, .slice a1 LT.length e1, .slice l1 LS.length d1, .bool false], RM, RG]) → G 7 (bt 14 247) (a0.put (some 147) (.slice (some ⟨b147, 0, none⟩) 1 1)) wq) := ⟨by
        intro b147 wq HC
        refine into_G hG ?_
        rw [hA.out]
        have hH := cS.is (w := wq) (HSP.out _ HC.out.below (HC.out.cell 3 rfl 3 rfl) (HC.out.cell 3 rfl 2 rfl))
        refine lTwo 3 8 (by kernel_rfl) ?_ ?_
        ·
         refine LStep.app (some 148) (.tmp 146) (.tmp 147) 31 (by kernel_rfl) 9 si _ 1 16 Tryz.underlying31 S1.out S2.out S3.out S4.out rfl (by omega) (.slice l1 LS.length d1) LS.length (LS.map Value.string) (by kernel_rfl) (HC.out.row 1 rfl) (some ⟨b147, 0, none⟩) 1 1 [.string { data := #[117, 110, 117, 115, 117, 97, 108] }] (by kernel_rfl) (nrow1 (HC.out.row 0 rfl)) (by simp [Value.oneCell']) (by unfold maxLen; omega) (by omega) ?_
         intro v' wr hown4 hgrow4 hat4
         have M4 := HC.out.grow 1 rfl hgrow4 hown4 hat4
         obtain ⟨l2, d2, rfl, _⟩ := M4.val 1 rfl
         have HN := Tre.hid (M4.del 0)
         clear M4 hown4 hgrow4 hat4
         refine ⟨HSP.out _ HN.out.below (HN.out.cell 2 rfl 3 rfl) (HN.out.cell 2 rfl 2 rfl), fun hH2 => ?_⟩
         refine lPv 10 (some 155) (.pointer (some ⟨b11, 3, none⟩)) (keep_of hH2) ?_
         exact outof_G hG (Z4.out l2 d2 b147 wr HN) (by kernel_rfl) (by rw [hA.out]; try kernel_rfl)
        ·
         have HN := Tre.hid (HC.out.allocRow #[.int .i64 (rg : Int)] 3 1 1 (by unfold maxLen; omega) rfl)
         have HC := Tre.hid ((HN.out.front 0 rfl).front 1 rfl)
         clear HN
         have hH2 := cS.is (w := (wq.alloc (.cells #[.int .i64 (rg : Int)] 3))) (HSP.out _ HC.out.below (HC.out.cell 4 rfl 3 rfl) (HC.out.cell 4 rfl 2 rfl))
         refine LStep.made (some 153) (.slice (some ⟨wq.heap.size, 0, none⟩) 1 1) _ (by kernel_rfl) (by kernel_rfl) hH2 ?_
         exact outof_G hG (Z5.out b147 wq.heap.size _ HC) (by kernel_rfl) (by rw [hA.out]; try kernel_rfl)
       ⟩
       have Z7 : Kept (∀ (b153 : Nat) (wq : World), Hid (Mem w7 wq [rowR 3 1 (.slice (some ⟨b153, 0, none⟩) 1 1) 1 [.int .i64 (rg : Int)], rowR 9 1 (.slice l1 LS.length d1) LS.length (LS.map Value.string), rowR 3 1 (.slice a1 LT.length e1) LT.length (LT.map (Value.int .i64)), cellsR b11 33 #[.int .i64 3, .string { data := #[] }, .slice a1 LT.length e1, .slice l1 LS.length d1, .bool false], RM, RG]) → G 7 (bt 14 499) (a0.put (some 153) (.slice (some ⟨b153, 0, none⟩) 1 1)) wq) := ⟨by
        intro b153 wq HC
        refine into_G hG ?_
        rw [hA.out]
        have hH := cS.is (w := wq) (HSP.out _ HC.out.below (HC.out.cell 3 rfl 3 rfl) (HC.out.cell 3 rfl 2 rfl))
        refine lOne 2 (by kernel_rfl) ?_
        ·
         have HN := Tre.hid (HC.out.allocRow #[.string { data := #[117, 110, 117, 115, 117, 97, 108] }] 9 1 1 (by unfold maxLen; omega) rfl)
         have hH2 := cS.is (w := (wq.alloc (.cells #[.string { data := #[117, 110, 117, 115, 117, 97, 108] }] 9))) (HSP.out _ HN.out.below (HN.out.cell 4 rfl 3 rfl) (HN.out.cell 4 rfl 2 rfl))
         refine LStep.made (some 147) (.slice (some ⟨wq.heap.size, 0, none⟩) 1 1) _ (by kernel_rfl) (by kernel_rfl) hH2 ?_
         exact outof_G hG (Z5.out wq.heap.size b153 _ HN) (by kernel_rfl) (by rw [hA.out]; try kernel_rfl)
       ⟩
       have Z8 : Kept (∀ (wq : World), Hid (Mem w7 wq [rowR 9 1 (.slice l1 LS.length d1) LS.length (LS.map Value.string), rowR 3 1 (.slice a1 LT.length e1) LT.length (LT.map (Value.int .i64)), cellsR b11 33 #[.int .i64 3, .string { data := #[] }, .slice a1 LT.length e1, .slice l1 LS.length d1, .bool false], RM, RG]) → G 8 (bt 14 243) (a0) wq) := ⟨by
        intro  wq HC
        refine into_G hG ?_
        rw [hA.out]
        have hH := cS.is (w := wq) (HSP.out _ HC.out.below (HC.out.cell 2 rfl 3 rfl) (HC.out.cell 2 rfl 2 rfl))
        refine lTwo 2 8 (by kernel_rfl) ?_ ?_
        ·
         have HN := Tre.hid (HC.out.allocRow #[.string { data := #[117, 110, 117, 115, 117, 97, 108] }] 9 1 1 (by unfold maxLen; omega) rfl)
         have hH2 := cS.is (w := (wq.alloc (.cells #[.string { data := #[117, 110, 117, 115, 117, 97, 108] }] 9))) (HSP.out _ HN.out.below (HN.out.cell 3 rfl 3 rfl) (HN.out.cell 3 rfl 2 rfl))
         refine LStep.made (some 147) (.slice (some ⟨wq.heap.size, 0, none⟩) 1 1) _ (by kernel_rfl) (by kernel_rfl) hH2 ?_
         exact outof_G hG (Z6.out wq.heap.size _ HN) (by kernel_rfl) (by rw [hA.out]; try kernel_rfl)
        ·
         have HN := Tre.hid (HC.out.allocRow #[.int .i64 (rg : Int)] 3 1 1 (by unfold maxLen; omega) rfl)
         have hH2 := cS.is (w := (wq.alloc (.cells #[.int .i64 (rg : Int)] 3))) (HSP.out _ HN.out.below (HN.out.cell 3 rfl 3 rfl) (HN.out.cell 3 rfl 2 rfl))
         refine LStep.made (some 153) (.slice (some ⟨wq.heap.size, 0, none⟩) 1 1) _ (by kernel_rfl) (by kernel_rfl) hH2 ?_
         exact outof_G hG (Z7.out wq.heap.size _ HN) (by kernel_rfl) (by rw [hA.out]; try kernel_rfl)
       ⟩
       exact Z8.out  wq0 HC
   ⟩
   have Z1 : Kept (∀ (b82 : Nat) (a85 : Option Addr) (c85 : Nat) (b10 : Nat) (wq : World), Hid (Mem w7 wq [cellsR b10 24 #[.slice none 0 0, .int .i64 0], rowR 33 5 (.slice a85 n c85) n (dg.flatMap NodeV.cells)]) → G 1 (bt 10 511) ((((a0.put (some 82) (.slice (some ⟨b82, 0, none⟩) 0 0)).put (some 85) (.slice a85 n c85)).put (some 86) (.agg #[.slice a85 n c85, .int .i64 (n : Int)])).put (some 10) (.pointer (some ⟨b10, 0, none⟩))) wq) := ⟨by
    intro b82 a85 c85 b10 wq HC
    refine into_G hG ?_
    rw [hA.out]
    try simp only [Act.put, zqf, zqg, zqh]
    have hH := cS.is (w := wq) (cell_below HC.out.below P30.out)
    refine lOne 9 (by kernel_rfl) ?_
    ·
     refine (LFall.op (by kernel_rfl) (fun K hK => ?_))
     have z0 := HC.out.free 0 rfl 0
     have z1 := HC.out.free 0 rfl 1
     obtain ⟨y0, y1⟩ := HC.out.two 0 rfl
     have HN := Tre.hid ((HC.out.setCell 0 rfl 0 (.slice a85 n c85)).setCell 0 rfl 1 (.int .i64 (n : Int)))
     go_simp
     clear z0 z1 y0 y1
     generalize hw : World.setCell _ ⟨b10, 1, none⟩ _ = wr at HN ⊢
     clear hw
     refine hK.out _ _ ?_
     exact outof_G hG (Z0.out b82 a85 c85 b10 wr HN) (by kernel_rfl) (by rw [hA.out]; try kernel_rfl)
   ⟩
   have Z2 : Kept (∀ (b82 : Nat) (a85 : Option Addr) (c85 : Nat) (wq : World), Hid (Mem w7 wq [rowR 33 5 (.slice a85 n c85) n (dg.flatMap NodeV.cells)]) → G 2 (bt 10 255) (((a0.put (some 82) (.slice (some ⟨b82, 0, none⟩) 0 0)).put (some 85) (.slice a85 n c85)).put (some 86) (.agg #[.slice a85 n c85, .int .i64 (n : Int)])) wq) := ⟨by
    intro b82 a85 c85 wq HC
    refine into_G hG ?_
    rw [hA.out]
    have hH := cS.is (w := wq) (cell_below HC.out.below P30.out)
    refine lOne 8 (by kernel_rfl) ?_
    ·
     have HN := Tre.hid (HC.out.allocR #[.slice none 0 0, .int .i64 0] 24)
     have hH2 := cS.is (w := (wq.alloc (.cells #[.slice none 0 0, .int .i64 0] 24))) (cell_below HN.out.below P30.out)
     refine LStep.made (some 10) (.pointer (some ⟨wq.heap.size, 0, none⟩)) _ (by kernel_rfl) (by kernel_rfl) hH2 ?_
     exact outof_G hG (Z1.out b82 a85 c85 wq.heap.size _ HN) (by kernel_rfl) (by rw [hA.out]; try kernel_rfl)
   ⟩
   have Z3 : Kept (∀ (b82 : Nat) (b10 : Nat) (wq : World), Hid (Mem w7 wq [cellsR b10 24 #[.slice none 0 0, .int .i64 0], rowR 33 5 (.slice (some ⟨b82, 0, none⟩) 0 0) 0 []]) → G 3 (bt 10 319) ((a0.put (some 82) (.slice (some ⟨b82, 0, none⟩) 0 0)).put (some 10) (.pointer (some ⟨b10, 0, none⟩))) wq) := ⟨by
    intro b82 b10 wq HC
    refine into_G hG ?_
    rw [hA.out]
    have hH := cS.is (w := wq) (cell_below HC.out.below P30.out)
    refine lOne 6 (by kernel_rfl) ?_
    ·
     refine LStep.app (some 85) (.tmp 82) (.tmp 84) 22 (by kernel_rfl) 33 ni _ 5 80 Tryz.underlying22 J1.out J2.out J3.out J4.out rfl (by omega) (.slice (some ⟨b82, 0, none⟩) 0 0) 0 [] (by kernel_rfl) (HC.out.row 1 rfl) (some ⟨gA, oA, none⟩) n ca (dg.flatMap NodeV.cells) (by kernel_rfl) (HROW.out _ HC.out.below) HONE.out (by unfold maxLen; omega) (by omega) ?_
     intro v' wr hown4 hgrow4 hat4
     simp only [Nat.zero_add, List.nil_append] at hown4
     have M4 := HC.out.grow 1 rfl hgrow4 hown4 hat4
     obtain ⟨a85, c85, rfl, _⟩ := M4.val 1 rfl
     have HN := Tre.hid M4
     clear M4 hown4 hgrow4 hat4
     refine ⟨cell_below HN.out.below P30.out, fun hH2 => ?_⟩
     refine lPv 7 (some 86) (.agg #[.slice a85 n c85, .int .i64 (n : Int)]) (keep_of hH2) ?_
     exact outof_G hG (Z1.out b82 a85 c85 b10 wr HN) (by kernel_rfl) (by rw [hA.out]; try kernel_rfl)
   ⟩
   have Z4 : Kept (∀ (b82 : Nat) (wq : World), Hid (Mem w7 wq [rowR 33 5 (.slice (some ⟨b82, 0, none⟩) 0 0) 0 []]) → G 4 (bt 10 63) (a0.put (some 82) (.slice (some ⟨b82, 0, none⟩) 0 0)) wq) := ⟨by
    intro b82 wq HC
    refine into_G hG ?_
    rw [hA.out]
    have hH := cS.is (w := wq) (cell_below HC.out.below P30.out)
    refine lTwo 6 8 (by kernel_rfl) ?_ ?_
    ·
     refine LStep.app (some 85) (.tmp 82) (.tmp 84) 22 (by kernel_rfl) 33 ni _ 5 80 Tryz.underlying22 J1.out J2.out J3.out J4.out rfl (by omega) (.slice (some ⟨b82, 0, none⟩) 0 0) 0 [] (by kernel_rfl) (HC.out.row 0 rfl) (some ⟨gA, oA, none⟩) n ca (dg.flatMap NodeV.cells) (by kernel_rfl) (HROW.out _ HC.out.below) HONE.out (by unfold maxLen; omega) (by omega) ?_
     intro v' wr hown4 hgrow4 hat4
     simp only [Nat.zero_add, List.nil_append] at hown4
     have M4 := HC.out.grow 0 rfl hgrow4 hown4 hat4
     obtain ⟨a85, c85, rfl, _⟩ := M4.val 0 rfl
     have HN := Tre.hid M4
     clear M4 hown4 hgrow4 hat4
     refine ⟨cell_below HN.out.below P30.out, fun hH2 => ?_⟩
     refine lPv 7 (some 86) (.agg #[.slice a85 n c85, .int .i64 (n : Int)]) (keep_of hH2) ?_
     exact outof_G hG (Z2.out b82 a85 c85 wr HN) (by kernel_rfl) (by rw [hA.out]; try kernel_rfl)
    ·
     have HN := Tre.hid (HC.out.allocR #[.slice none 0 0, .int .i64 0] 24)
     have hH2 := cS.is (w := (wq.alloc (.cells #[.slice none 0 0, .int .i64 0] 24))) (cell_below HN.out.below P30.out)
     refine LStep.made (some 10) (.pointer (some ⟨wq.heap.size, 0, none⟩)) _ (by kernel_rfl) (by kernel_rfl) hH2 ?_
     exact outof_G hG (Z3.out b82 wq.heap.size _ HN) (by kernel_rfl) (by rw [hA.out]; try kernel_rfl)
   ⟩
   have Z5 : Kept (∀ (b10 : Nat) (wq : World), Hid (Mem w7 wq [cellsR b10 24 #[.slice none 0 0, .int .i64 0]]) → G 4 (bt 10 311) (a0.put (some 10) (.pointer (some ⟨b10, 0, none⟩))) wq) := ⟨by
    intro b10 wq HC
    refine into_G hG ?_
    rw [hA.out]
    have hH := cS.is (w := wq) (cell_below HC.out.below P30.out)
    refine lOne 3 (by kernel_rfl) ?_
    ·
     have HN := Tre.hid (HC.out.allocRow #[] 33 5 0 (by unfold maxLen; omega) rfl)
     have HC := Tre.hid ((HN.out.front 0 rfl).front 1 rfl)
     clear HN
     have hH2 := cS.is (w := (wq.alloc (.cells #[] 33))) (cell_below HC.out.below P30.out)
     refine LStep.made (some 82) (.slice (some ⟨wq.heap.size, 0, none⟩) 0 0) _ (by kernel_rfl) (by kernel_rfl) hH2 ?_
     exact outof_G hG (Z3.out wq.heap.size b10 _ HC) (by kernel_rfl) (by rw [hA.out]; try kernel_rfl)
   ⟩
   have Z6 : Kept (∀ (wq : World), Hid (Mem w7 wq []) → G 5 (bt 10 55) (a0) wq) := ⟨by
    intro  wq HC
    refine into_G hG ?_
    rw [hA.out]
    have hH := cS.is (w := wq) (cell_below HC.out.below P30.out)
    refine lTwo 3 8 (by kernel_rfl) ?_ ?_
    ·
     have HN := Tre.hid (HC.out.allocRow #[] 33 5 0 (by unfold maxLen; omega) rfl)
     have hH2 := cS.is (w := (wq.alloc (.cells #[] 33))) (cell_below HN.out.below P30.out)
     refine LStep.made (some 82) (.slice (some ⟨wq.heap.size, 0, none⟩) 0 0) _ (by kernel_rfl) (by kernel_rfl) hH2 ?_
     exact outof_G hG (Z4.out wq.heap.size _ HN) (by kernel_rfl) (by rw [hA.out]; try kernel_rfl)
    ·
     have HN := Tre.hid (HC.out.allocR #[.slice none 0 0, .int .i64 0] 24)
     have hH2 := cS.is (w := (wq.alloc (.cells #[.slice none 0 0, .int .i64 0] 24))) (cell_below HN.out.below P30.out)
     refine LStep.made (some 10) (.pointer (some ⟨wq.heap.size, 0, none⟩)) _ (by kernel_rfl) (by kernel_rfl) hH2 ?_
     exact outof_G hG (Z5.out wq.heap.size _ HN) (by kernel_rfl) (by rw [hA.out]; try kernel_rfl)
   ⟩
   exact Z6.out  wq0 HC
  ⟩
  have Z1 : Kept (∀ (aL : Option Addr) (cL : Nat) (dL : List NodeV) (b8 : Nat) (wq : World), Hid (Mem w6 wq [cellsR b8 24 #[.slice none 0 0, .int .i64 0], nodesR (.slice aL dL.length cL) dL, kidsR dL, factR (dL.map NodeV.n = (h.lessG i).ns)]) → G 2 (bt 18 65535) (((((a0.put (some 68) (.tuple #[.agg #[.slice aL dL.length cL, .int .i64 0], .int .i64 0])).put (some 56) (.tuple #[.agg #[.slice aL dL.length cL, .int .i64 0], .int .i64 0])).put (some 69) (.agg #[.slice aL dL.length cL, .int .i64 0])).put (some 70) (.int .i64 0)).put (some 8) (.pointer (some ⟨b8, 0, none⟩))) wq) := ⟨by
   intro aL cL dL b8 wq HC
   refine into_G hG ?_
   rw [hA.out]
   try simp only [Act.put, zqf, zqg, zqh]
   have hH := cS.is (w := wq) (⟨cell_below HC.out.below P40.out, cell_below HC.out.below P41.out, cell_below HC.out.below P73.out, cell_below HC.out.below PS.out⟩)
   refine lOne 16 (by kernel_rfl) ?_
   ·
    refine (LFall.op (by kernel_rfl) (fun K hK => ?_))
    have z0 := HC.out.free 0 rfl 0
    have z1 := HC.out.free 0 rfl 1
    obtain ⟨y0, y1⟩ := HC.out.two 0 rfl
    have HN := Tre.hid ((HC.out.setCell 0 rfl 0 (.slice aL dL.length cL)).setCell 0 rfl 1 (.int .i64 0))
    go_simp
    clear z0 z1 y0 y1
    generalize hw : World.setCell _ ⟨b8, 1, none⟩ _ = wr at HN ⊢
    clear hw
    refine hK.out _ _ ?_
    refine lPv 17 (some 9) (.int .i64 0) (keep_fell (by kernel_rfl)) ?_
    exact outof_G hG (Z0.out aL cL dL b8 wr HN) (by kernel_rfl) (by rw [hA.out]; try kernel_rfl)
  ⟩
  have Z2 : Kept (∀ (aL : Option Addr) (cL : Nat) (dL : List NodeV) (wq : World), Hid (Mem w6 wq [nodesR (.slice aL dL.length cL) dL, kidsR dL, factR (dL.map NodeV.n = (h.lessG i).ns)]) → G 3 (bt 18 32767) ((((a0.put (some 68) (.tuple #[.agg #[.slice aL dL.length cL, .int .i64 0], .int .i64 0])).put (some 56) (.tuple #[.agg #[.slice aL dL.length cL, .int .i64 0], .int .i64 0])).put (some 69) (.agg #[.slice aL dL.length cL, .int .i64 0])).put (some 70) (.int .i64 0)) wq) := ⟨by
   intro aL cL dL wq HC
   refine into_G hG ?_
   rw [hA.out]
   have hH := cS.is (w := wq) (⟨cell_below HC.out.below P40.out, cell_below HC.out.below P41.out, cell_below HC.out.below P73.out, cell_below HC.out.below PS.out⟩)
   refine lOne 15 (by kernel_rfl) ?_
   ·
    have HN := Tre.hid (HC.out.allocR #[.slice none 0 0, .int .i64 0] 24)
    have hH2 := cS.is (w := (wq.alloc (.cells #[.slice none 0 0, .int .i64 0] 24))) (⟨cell_below HN.out.below P40.out, cell_below HN.out.below P41.out, cell_below HN.out.below P73.out, cell_below HN.out.below PS.out⟩)
    refine LStep.made (some 8) (.pointer (some ⟨wq.heap.size, 0, none⟩)) _ (by kernel_rfl) (by kernel_rfl) hH2 ?_
    exact outof_G hG (Z1.out aL cL dL wq.heap.size _ HN) (by kernel_rfl) (by rw [hA.out]; try kernel_rfl)
  ⟩
  have Z3 : Kept (∀ (b8 : Nat) (wq : World), Hid (Mem w6 wq [cellsR b8 24 #[.slice none 0 0, .int .i64 0]]) → G 6 (bt 18 34815) (a0.put (some 8) (.pointer (some ⟨b8, 0, none⟩))) wq) := ⟨by
   intro b8 wq HC
   refine into_G hG ?_
   rw [hA.out]
   try simp only [Act.put, zqf, zqg, zqh]
   have hH := cS.is (w := wq) (⟨cell_below HC.out.below P40.out, cell_below HC.out.below P41.out, cell_below HC.out.below P73.out, cell_below HC.out.below PS.out⟩)
   refine lOne 11 (by kernel_rfl) ?_
   ·
    refine (LStep.op (fun K hK => ?_))
    go_simp
    refine (HFG.out _ HC.out.below).mono ?_
    rintro e wr ⟨vL, dL, rfl, hdL, mq⟩
    have HN1 := HC.out.call mq
    obtain ⟨aL, cL, rfl, _⟩ := HN1.val 0 rfl
    have HN := Tre.hid (HN1.addFact hdL)
    clear mq HN1 hdL
    (try dsimp only)
    have HC := Tre.hid ((((HN.out.front 0 rfl).front 2 rfl).front 2 rfl).front 3 rfl)
    clear HN
    refine hK.out _ _ ?_ (fun hH2 => ?_)
    ·exact ⟨cell_below HC.out.below P40.out, cell_below HC.out.below P41.out, cell_below HC.out.below P73.out, cell_below HC.out.below PS.out⟩
    refine lPv 12 (some 56) (.tuple #[.agg #[.slice aL dL.length cL, .int .i64 0], .int .i64 0]) (keep_of hH2) ?_
    refine lPv 13 (some 69) (.agg #[.slice aL dL.length cL, .int .i64 0]) (keep_of hH2) ?_
    refine lPv 14 (some 70) (.int .i64 0) (keep_of hH2) ?_
    exact outof_G hG (Z1.out aL cL dL b8 wr HC) (by kernel_rfl) (by rw [hA.out]; try kernel_rfl)
  ⟩
  have Z4 : Kept (∀ (wq : World), Hid (Mem w6 wq []) → G 7 (bt 18 2047) (a0) wq) := ⟨by
   intro  wq HC
   refine into_G hG ?_
   rw [hA.out]
   try simp only [Act.put, zqf, zqg, zqh]
   have hH := cS.is (w := wq) (⟨cell_below HC.out.below P40.out, cell_below HC.out.below P41.out, cell_below HC.out.below P73.out, cell_below HC.out.below PS.out⟩)
   refine lTwo 11 15 (by kernel_rfl) ?_ ?_
   ·
    refine (LStep.op (fun K hK => ?_))
    go_simp
    refine (HFG.out _ HC.out.below).mono ?_
    rintro e wr ⟨vL, dL, rfl, hdL, mq⟩
    have HN1 := HC.out.call mq
    obtain ⟨aL, cL, rfl, _⟩ := HN1.val 0 rfl
    have HN := Tre.hid (HN1.addFact hdL)
    clear mq HN1 hdL
    (try dsimp only)
    have HC := Tre.hid (((HN.out.front 0 rfl).front 2 rfl).front 2 rfl)
    clear HN
    refine hK.out _ _ ?_ (fun hH2 => ?_)
    ·exact ⟨cell_below HC.out.below P40.out, cell_below HC.out.below P41.out, cell_below HC.out.below P73.out, cell_below HC.out.below PS.out⟩
    refine lPv 12 (some 56) (.tuple #[.agg #[.slice aL dL.length cL, .int .i64 0], .int .i64 0]) (keep_of hH2) ?_
    refine lPv 13 (some 69) (.agg #[.slice aL dL.length cL, .int .i64 0]) (keep_of hH2) ?_
    refine lPv 14 (some 70) (.int .i64 0) (keep_of hH2) ?_
    exact outof_G hG (Z2.out aL cL dL wr HC) (by kernel_rfl) (by rw [hA.out]; try kernel_rfl)
   ·
    have HN := Tre.hid (HC.out.allocR #[.slice none 0 0, .int .i64 0] 24)
    have hH2 := cS.is (w := (wq.alloc (.cells #[.slice none 0 0, .int .i64 0] 24))) (⟨cell_below HN.out.below P40.out, cell_below HN.out.below P41.out, cell_below HN.out.below P73.out, cell_below HN.out.below PS.out⟩)
    refine LStep.made (some 8) (.pointer (some ⟨wq.heap.size, 0, none⟩)) _ (by kernel_rfl) (by kernel_rfl) hH2 ?_
    exact outof_G hG (Z3.out wq.heap.size _ HN) (by kernel_rfl) (by rw [hA.out]; try kernel_rfl)
  ⟩
  exact Z4.out  wq0 HC
theorem growsLaw' (ag ah : Option Addr) (ca cb : Nat) (g h : Tre.Graph) (l : Int) (w : World) (hg : NodesAt w ag g.ns) (hh : NodesAt w ah h.ns) (wg : g.weight + 5 * g.ns.length + 3 ≤ 1048576) (wh : h.weight + 5 * h.ns.length + 3 ≤ 1048576) (wl : (Lit.int .u8 l).wf = true) (E : LexEnv w) :
  Calls Tryz.prog 5 #[.agg #[.slice ag g.ns.length ca, .int .i64 g.root], .agg #[.slice ah h.ns.length cb, .int .i64 h.root], .int .u8 l] w fun e w' => e = .returned (.bool true) ∧ Below w.heap.size w w' := by
 have ha : 0 ≤ l ∧ l ≤ 255 := by simpa [Lit.wf, IntKind.min, IntKind.max, IntKind.signed, IntKind.bits] using wl
 obtain ⟨N, rfl⟩ := Int.eq_ofNat_of_zero_le ha.1
 exact growsLaw ag ah ca cb g h N w hg hh wg wh (by omega) E
end Go.Proofs.YtoieknnnadgfpaaGreatDoor.gr
