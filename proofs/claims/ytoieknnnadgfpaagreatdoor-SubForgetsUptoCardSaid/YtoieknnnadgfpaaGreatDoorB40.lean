/- SubForgets: the walk. -/
import Derived.Test.YtoieknnnadgfpaaGreatDoorB36
import Derived.Test.YtoieknnnadgfpaaGreatDoorB39
import Derived.Test.YtoieknnnadgfpaaGreatDoorB00
import Derived.IntWalk
set_option linter.unusedVariables false
namespace Go.Tre
theorem mid_weight (g : Tre.Graph) : (midG g).weight = g.weight + 4 := by
 unfold Graph.weight midG
 rw [List.map_append, List.sum_append]
 rfl
theorem top_weight (g : Tre.Graph) (x : Tre.Node) : (topG g x).weight = g.weight + x.weight := by
 unfold Graph.weight topG
 rw [List.map_append, List.sum_append]
 simp
theorem fun_weight (g : Tre.Graph) (gives : Bool) : (funG g gives).weight = g.weight + 9 := by
 unfold funG
 rw [top_weight, mid_weight]
 cases gives <;> rfl
theorem fun_len (g : Tre.Graph) (gives : Bool) : (funG g gives).ns.length = g.ns.length + 2 := by
 show (g.ns ++ [_] ++ [_]).length = _
 rw [List.length_append, List.length_append]; rfl
theorem fun_root (g : Tre.Graph) (gives : Bool) : (funG g gives).root = (g.ns.length : Int) + 1 := by
 show ((( g.ns ++ [_]).length : Nat) : Int) = _
 rw [List.length_append]; rfl
theorem less_len (g : Tre.Graph) (i : Nat) : (g.lessG i).ns.length ≤ g.ns.length + 1 := by
 unfold Graph.lessG
 have h := reach_len_le (lessTop g i)
 rw [← trim_len] at h
 have e : (lessTop g i).ns.length = g.ns.length + 1 := top_len
 omega
end Go.Tre
namespace Go.Proofs.YtoieknnnadgfpaaGreatDoor.gr
open Go.RowKit Go.Shelf Go.Maps Go.Tre lex
theorem below_below {w w1 w2 : World} (h : Below w.heap.size w w1) (k : Below w1.heap.size w1 w2) : Below w.heap.size w w2 := ((Mem.of_below h).quiet k).below
theorem fun_may {w9 W : World} {a1 a2 : Option Addr} {c1 c2 k1 k2 m n : Nat} {G H : Tre.Graph} {dG dH : List NodeV} {t : Bool} (hb : Below w9.heap.size w9 W) (h1 : (funR a1 c1 k1 dG (if t then (m : Int) else 0) (if t then 0 else (m : Int))).P W) (h2 : (funR a2 c2 k2 dH (if t then (n : Int) else 0) (if t then 0 else (n : Int))).P W)
  (hG : dG.map NodeV.n = G.ns) (hH : dH.map NodeV.n = H.ns) (vG : ∀ d ∈ dG, NodeVal w9 d) (vH : ∀ d ∈ dH, NodeVal w9 d) (lG : G.ns.length = m) (lH : H.ns.length = n) (rG : G.root = 0) (rH : H.root = 0) (cG : G.checkC = 0) (cH : H.checkC = 0) (sG : G.Shut) (sH : H.Shut)
  (wG : G.weight + 9 ≤ 2097152) (wH : H.weight + 9 ≤ 2097152) (hm : m + 2 ≤ 512) (hn : n + 2 ≤ 512) (hx : MaxAt w9) :
  Calls Tryz.prog 12 #[.agg #[.slice a1 (m + 2) c1, .int .i64 ((m : Int) + 1)], .agg #[.slice a2 (n + 2) c2, .int .i64 ((n : Int) + 1)]] W fun e w' => e = .returned (.bool (if t then subB G H else subB H G)) ∧ Below W.heap.size W w' := by
 have e1 : (funG G t).ns = (topG (midG G) (conN arrowB (if t then (m : Int) else 0) (if t then 0 else (m : Int)))).ns := by
  unfold funG
  rw [lG, show G.root.toNat = 0 by rw [rG]; rfl]
  cases t <;> rfl
 have e2 : (funG H t).ns = (topG (midG H) (conN arrowB (if t then (n : Int) else 0) (if t then 0 else (n : Int)))).ns := by
  unfold funG
  rw [lH, show H.root.toNat = 0 by rw [rH]; rfl]
  cases t <;> rfl
 have N1 := fun_nodes h1 hb hG vG
 have N2 := fun_nodes h2 hb hH vH
 rw [← e1] at N1
 rw [← e2] at N2
 have K := mays_any a1 a2 c1 c2 (funG G t) (funG H t) W N1 N2 (by rw [fun_weight]; omega) (by rw [fun_weight]; omega) (by rw [fun_len]; omega) (by rw [fun_len]; omega) (hx.below hb) (fun_ok cG (by omega) t) (fun_ok cH (by omega) t) (fun_shut cG (by omega) sG t) (fun_shut cH (by omega) sH t)
 rw [fun_sub cG cH (by omega) (by omega), fun_len, fun_len, fun_root, fun_root, lG, lH] at K
 exact K
theorem kind_labels {X : Tre.Node} {k : Nat} (h : mayB X k = true) (hl : X.labels ≠ []) : X.kind = 3 := by
 unfold mayB at h
 rw [Bool.and_eq_true] at h
 have h2 := h.2
 split at h2
 ·simp at h2; exact absurd h2.1.1.1 hl
 ·split at h2
  ·simp at h2; exact absurd h2.1.1 hl
  ·split at h2
   ·assumption
   ·cases h2
set_option maxRecDepth 100000 in
set_option maxHeartbeats 16000000 in
theorem forgetsLaw (ag : Option Addr) (ca : Nat) (g : Tre.Graph) (l : Nat) (w : World) (hg : NodesAt w ag g.ns) (wg : g.weight + 5 * g.ns.length + 4 ≤ 1048576) (hl : l ≤ 255) (E : LexEnv w) :
  Calls Tryz.prog 6 #[.agg #[.slice ag g.ns.length ca, .int .i64 g.root], .int .u8 (l : Int)] w fun e w' => e = .returned (.bool true) ∧ Below w.heap.size w w' := by
 have M := (Mem.nil w).allocR #[.slice ag g.ns.length ca, .int .i64 g.root] 24
 have HM0 := Tre.hid M
 have HX := Tre.hid E.max
 have HG := Tre.hid hg
 have HAL := Tre.hid (alive12 _ (E.below M.below))
 clear E hg M
 go_enter Tryz.func6, Tryz.ntmps6
 go_wp2_with fail
 refine HAL.out.mono ?_
 rintro e w1 ⟨rfl, bq⟩
 have HM1 := Tre.hid (HM0.out.quiet bq)
 clear bq HAL HM0
 obtain ⟨g0, g1⟩ := HM1.out.two 0 rfl
 go_wp2_with fail
 refine (great.great ag ca g _ (by omega) (HG.out.below HM1.out.below)).mono ?_
 rintro e w2 ⟨rfl, bq⟩
 have HM2 := Tre.hid (HM1.out.quiet bq)
 clear bq HM1 g0 g1
 obtain ⟨g0, g1⟩ := HM2.out.two 0 rfl
 by_cases tg : (300 : Int) < g.great
 ·have t := tg
  go_wp2_with fail
  go_ret
  exact ⟨rfl, HM2.out.below⟩
 have ng : g.ns.length ≤ 300 := by have := g.great_len; omega
 go_wp2_with fail
 refine (check_any ag ca g _ (HG.out.below HM2.out.below) (by omega) (HX.out.below HM2.out.below)).mono ?_
 rintro e w3 ⟨rfl, bq⟩
 have HM3 := Tre.hid (HM2.out.quiet bq)
 clear bq HM2 g0 g1
 obtain ⟨g0, g1⟩ := HM3.out.two 0 rfl
 by_cases t3 : g.checkC ≠ 0
 ·have t := not_ok t3
  go_wp2_with fail
  go_ret
  exact ⟨rfl, HM3.out.below⟩
 have cg : g.checkC = 0 := by omega
 have u3 : (g.checkC != 0) = false := by rw [cg]; rfl
 have CG := Tre.hid cg
 clear cg t3
 go_wp2_with fail
 refine (close_any ag ca g _ (HG.out.below HM3.out.below) (by omega) (HX.out.below HM3.out.below) CG.out).mono ?_
 rintro e w4 ⟨vA, dA, rfl, hdA, mq⟩
 have HM4 := Tre.hid (HM3.out.call mq)
 obtain ⟨aA, cA, rfl, _⟩ := HM4.out.val 0 rfl
 clear mq g0 g1 HM3
 have HM5 := Tre.hid (HM4.out.allocR #[.slice aA dA.length cA, .int .i64 0] 24)
 go_upto_region 6 with fail
 generalize hw : World.alloc _ _ = w5 at HM5 ⊢
 generalize hb : w4.heap.size = b5 at HM5 ⊢
 clear hw hb HM4 u3
 have HBW := Tre.hid HM5.out.below
 have HX5 := Tre.hid (HX.out.below HM5.out.below)
 have hA := nodes_read (HM5.out.at_ 1 rfl) (HM5.out.at_ 2 rfl)
 have hdn : dA.length = g.closeG.ns.length := by rw [← hdA, List.length_map]
 rw [hdA] at hA
 obtain ⟨A, hAA⟩ : ∃ A : Tre.Graph, g.closeG = A := ⟨_, rfl⟩
 have ca0 : A.checkC = 0 := by rw [← hAA]; exact close_ok CG.out
 have sa : A.Shut := by rw [← hAA]; exact close_shut CG.out
 have lenA : A.ns.length ≤ 300 := by rw [← hAA]; exact Nat.le_trans close_len ng
 have OA := Graph.ok_of ca0
 have hA0 : 0 < A.ns.length := by have h1 := OA.root0; have h2 := OA.root1; omega
 have hg0 : 0 < g.ns.length := by have := Graph.ok_of CG.out; have h1 := this.root0; have h2 := this.root1; omega
 have wA : A.weight ≤ 1048571 := by have := closeG_weight g; rw [hAA] at this; omega
 have rA : A.root = 0 := by rw [← hAA]; rfl
 rw [hAA] at hA hdn
 obtain ⟨gA, oA, rfl, nx⟩ := hA.at_ 0 (A.nd 0) (by rw [Graph.nd_eq hA0]; exact List.getElem?_eq_getElem hA0)
 rw [Nat.zero_mul, Nat.add_zero] at nx
 obtain ⟨dsA, hdsA, hcsA, hvA⟩ := nodes_vals hA
 obtain ⟨n, hn⟩ : ∃ n : Nat, A.ns.length = n := ⟨_, rfl⟩
 have P50 : Hid (w5.cell? ⟨b5, 0, none⟩ = some (.slice (some ⟨gA, oA, none⟩) n cA)) := by have h := HM5.out.cell 0 rfl 0 rfl; rw [hdn, hn] at h; exact h
 have P51 : Hid (w5.cell? ⟨b5, 1, none⟩ = some (.int .i64 0)) := HM5.out.cell 0 rfl 1 rfl
 have hXw : (A.nd 0).weight ≤ A.weight := by rw [Graph.nd_eq hA0]; exact node_weight (List.getElem_mem hA0)
 have hmay := OA.may 0 hA0
 have hro : A.root.toNat = 0 := by rw [rA]; rfl
 rw [hdn, hn]
 obtain ⟨X, hX⟩ : ∃ X, A.nd 0 = X := ⟨_, rfl⟩
 rw [hX] at nx hmay hXw
 obtain ⟨ax, cx, lx, dx, x0, x1, x2, x3, x4, xA, xL, hca, hcl⟩ := nx
 have HA := Tre.hid hA
 have HDA := Tre.hid hdsA
 have HCA := Tre.hid hcsA
 have HVA := Tre.hid hvA
 have CA := Tre.hid ca0
 have SA := Tre.hid sa
 have RA := Tre.hid rA
 have WA := Tre.hid wA
 have HN_ := Tre.hid hn
 have HXE := Tre.hid hX
 have HXL := Tre.hid xL
 have HRO := Tre.hid hro
 have hn1 : 0 < n := by omega
 have hnl : n ≤ 300 := by omega
 have hlw : X.labels.length ≤ 1048576 := by have := labels_len X; omega
 have HMAY := Tre.hid hmay
 clear hA hdsA hcsA hvA ca0 sa rA wA hn hX xL hro hAA hdn OA hA0 hg0 lenA hdA CG HG HX HM5 wg ng hmay hXw xA hca hcl tg
 have p50 := P50.out
 have p51 := P51.out
 have M6 := Tre.hid ((Mem.nil w5).allocR #[.int .i64 X.kind, .string X.name, .slice ax X.args.length cx, .slice lx X.labels.length dx, .bool X.isOpen] 33)
 go_upto_region 7 with fail
 clear p50 p51 x0 x1 x2 x3 x4
 generalize hw : World.alloc _ _ = w6 at M6 ⊢
 generalize hb : w5.heap.size = b6 at M6 ⊢
 clear hw hb
 have P50 := Tre.hid (cell_below M6.out.below P50.out)
 have P51 := Tre.hid (cell_below M6.out.below P51.out)
 have P60 : Hid (w6.cell? ⟨b6, 0, none⟩ = some (.int .i64 X.kind)) := M6.out.cell 0 rfl 0 rfl
 have P63 : Hid (w6.cell? ⟨b6, 3, none⟩ = some (.slice lx X.labels.length dx)) := M6.out.cell 0 rfl 3 rfl
 have HB6 := Tre.hid (below_below HBW.out M6.out.below)
 have HX6 := Tre.hid (HX5.out.below M6.out.below)
 have HA6 := Tre.hid (HA.out.below M6.out.below)
 have HXL := Tre.hid (HXL.out.below M6.out.below)
 have HCA : Hid (∀ j u, (dsA.flatMap NodeV.cells)[j]? = some u → w6.cell? ⟨gA, oA + j, none⟩ = some u) := fun j u h => cell_below M6.out.below (HCA.out j u h)
 have HVA : Hid (∀ d ∈ dsA, NodeVal w6 d) := fun d hd => (HVA.out d hd).below M6.out.below
 clear HBW HX5 HA M6
 have p60 := P60.out
 have p63 := P63.out
 have p50 := P50.out
 have p51 := P51.out
 by_cases hlab : X.labels = []
 ·have FN := forget_none gA oA cA A ⟨#[109]⟩ w6 HA6.out (by have := WA.out; omega) HX6.out CA.out (by rw [HRO.out, HXE.out, hlab])
  rw [HN_.out, RA.out] at FN
  have HFN := Tre.hid FN
  simp only [hlab, List.length_nil] at p63
  clear FN hlab hlw
  cases hk : (X.kind != 3) with
  | true =>
   go_wp2_with fail
   refine HFN.out.mono ?_
   rintro e w7 ⟨rfl, bq⟩
   go_wp2_with fail
   go_ret
   exact ⟨rfl, below_below HB6.out ((Mem.of_below bq).allocR _ _).below⟩
  | false =>
   go_wp2_with fail
   refine HFN.out.mono ?_
   rintro e w7 ⟨rfl, bq⟩
   go_wp2_with fail
   go_ret
   exact ⟨rfl, below_below HB6.out ((Mem.of_below bq).allocR _ _).below⟩
 ·have h3 : X.kind = 3 := kind_labels HMAY.out hlab
  have hk : (X.kind != 3) = false := by rw [h3]; rfl
  have hlp : 0 < X.labels.length := List.length_pos_iff.2 hlab
  obtain ⟨bl, ol, rfl⟩ := strs_some HXL.out hlp
  obtain ⟨i, hi⟩ : ∃ i, l % X.labels.length = i := ⟨_, rfl⟩
  have hil : i < X.labels.length := by rw [← hi]; exact Nat.mod_lt _ hlp
  obtain ⟨s, hs⟩ : ∃ s, X.labels[i]? = some s := ⟨_, List.getElem?_eq_getElem hil⟩
  have hkq : (l : Int).tmod (X.labels.length : Int) = (i : Int) := by rw [Int.tmod_eq_emod_of_nonneg (by omega), ← hi]; omega
  have PS : Hid (w6.cell? ⟨bl, ol + i, none⟩ = some (.string s)) := by
   obtain ⟨b', o', e, hc⟩ := HXL.out.at_ i (.string s) (by rw [List.getElem?_map, hs]; rfl)
   cases e
   exact hc
  have FL := fun W (hW : Below w6.heap.size w6 W) => forget_any gA oA cA i A s W (HA6.out.below hW) (by have := WA.out; omega) (HX6.out.below hW) CA.out (by rw [HRO.out, HXE.out]; exact h3) (by rw [HRO.out, HXE.out]; exact hs)
  rw [HN_.out, RA.out] at FL
  have HFG := Tre.hid FL
  have H3 := Tre.hid h3
  have HIL := Tre.hid hil
  clear FL h3 hlp hi hs
  have hlq : ((X.labels.length : Int) == 0) = false := by rw [beq_eq_false_iff_ne]; omega
  go_upto_region 10 with fail
  clear p60 p63 p50 p51 hk
  have m1 : (0 : Int) ≤ (i : Int) := by omega
  have m2 : (i : Int) < (X.labels.length : Int) := by omega
  have hn0 : ¬ X.labels.length = 0 := by omega
  have hn2 : ¬ (X.labels.length : Int) = 0 := by omega
  have cS : Cond (fun w' => w'.cell? ⟨b5, 0, none⟩ = some (.slice (some ⟨gA, oA, none⟩) n cA) ∧ w'.cell? ⟨b5, 1, none⟩ = some (.int .i64 0) ∧ w'.cell? ⟨b6, 3, none⟩ = some (.slice (some ⟨bl, ol, none⟩) X.labels.length dx) ∧ w'.cell? ⟨bl, ol + i, none⟩ = some (.string s)) := ⟨⟩
  refine wp_region_keep (S := (fun w' => w'.cell? ⟨b5, 0, none⟩ = some (.slice (some ⟨gA, oA, none⟩) n cA) ∧ w'.cell? ⟨b5, 1, none⟩ = some (.int .i64 0) ∧ w'.cell? ⟨b6, 3, none⟩ = some (.slice (some ⟨bl, ol, none⟩) X.labels.length dx) ∧ w'.cell? ⟨bl, ol + i, none⟩ = some (.string s))) [16] (by kernel_rfl) ?_ (fun hH => ?_)
  ·exact ⟨P50.out, P51.out, P63.out, PS.out⟩
  have HC := Tre.hid (Mem.nil w6).drew
  generalize hq : World.drew _ = wq0 at HC hH ⊢
  clear hq
  try simp only [Act.put, zqf, zqg, zqh]
  refine lTk 0 (some 47) (v := ?_) ?_ hH ?_
  rotate_left
  ·intro w hSw; (try dsimp only at hSw); simp only [zqa, zqc, zqd, zqe]; go_simp <;> with_reducible rfl
  try simp only [Act.put, zqf, zqg, zqh]
  refine lPv 1 (some 48) (.pointer (some ⟨b6, 3, none⟩)) (keep_of hH) ?_
  try simp only [Act.put, zqf, zqg, zqh]
  refine lTk 2 (some 49) (v := ?_) ?_ hH ?_
  rotate_left
  ·intro w hSw; (try dsimp only at hSw); simp only [zqa, zqb, zqc, zqd, zqe]; go_simp <;> with_reducible rfl
  try simp only [Act.put, zqf, zqg, zqh]
  refine lPv 3 (some 50) (.int .u8 (l : Int)) (keep_of hH) ?_
  refine lPu 4 (some 51) (.int .i64 (l : Int)) (by kernel_rfl) (fun _ _ _ h => h) (fun w => Eq.trans (b := some (true, .ok (.value (.int .i64 (IntKind.i64.wrap (l : Int)))) w)) (by kernel_rfl) (by rw [IntWalk.i64_in _ (by omega)])) (keep_of hH) ?_
  refine lPv 5 (some 52) (.pointer (some ⟨b6, 3, none⟩)) (keep_of hH) ?_
  try simp only [Act.put, zqf, zqg, zqh]
  refine lTk 6 (some 53) (v := ?_) ?_ hH ?_
  rotate_left
  ·intro w hSw; (try dsimp only at hSw); simp only [zqa, zqb, zqc, zqd, zqe]; go_simp <;> with_reducible rfl
  try simp only [Act.put, zqf, zqg, zqh]
  refine lPv 7 (some 54) (.int .i64 (X.labels.length : Int)) (keep_of hH) ?_
  try simp only [Act.put, zqf, zqg, zqh]
  refine lPk 8 (some 55) (v := ?_) ?_ (keep_of hH) ?_
  rotate_left
  ·intro w; simp only [zqa, zqb, zqc, zqd, zqe]; go_simp <;> with_reducible rfl
  try simp only [Act.put, zqf, zqg, zqh]
  refine lPk 9 (some 56) (v := ?_) ?_ (keep_of hH) ?_
  rotate_left
  ·intro w; simp only [zqa, zqb, zqc, zqd, zqe]; go_simp <;> with_reducible rfl
  try simp only [Act.put, zqf, zqg, zqh]
  refine lTk 10 (some 57) (v := ?_) ?_ hH ?_
  rotate_left
  ·intro w hSw; (try dsimp only at hSw); simp only [zqa, zqb, zqc, zqd, zqe]; go_simp <;> with_reducible rfl
  try simp only [Act.put, zqf, zqg, zqh]
  try simp only [Act.put, zqf, zqg, zqh]
  refine with_G (G0 := wpAnyL _ _ _ _ _ _) ?_
  intro G hG a0 hA
  have Z0 : Kept (∀ (aL : Option Addr) (cL : Nat) (dL : List NodeV) (b9 : Nat) (wq : World), Hid (Mem w6 wq [cellsR b9 24 #[.slice aL dL.length cL, .int .i64 0], nodesR (.slice aL dL.length cL) dL, kidsR dL, factR (dL.map NodeV.n = (A.lessG i).ns)]) → G 0 (bt 18 262143) ((((((a0.put (some 58) (.tuple #[.agg #[.slice aL dL.length cL, .int .i64 0], .int .i64 0])).put (some 46) (.tuple #[.agg #[.slice aL dL.length cL, .int .i64 0], .int .i64 0])).put (some 59) (.agg #[.slice aL dL.length cL, .int .i64 0])).put (some 60) (.int .i64 0)).put (some 9) (.pointer (some ⟨b9, 0, none⟩))).put (some 10) (.int .i64 0)) wq) := ⟨by
   intro aL cL dL b9 wq HC
   refine into_G hG ?_
   rw [hA.out]
   try simp only [Act.put, zqf, zqg, zqh]
   refine lDone (by kernel_rfl) ?_
   clear hA hG
   obtain ⟨w7, hw7⟩ : ∃ w7 : World, wq = w7 := ⟨_, rfl⟩
   rw [hw7] at HC ⊢
   clear hw7
   have fa : dL.map NodeV.n = (A.lessG i).ns := HC.out.at_ 3 rfl
   have hL := nodes_read (HC.out.at_ 1 rfl) (HC.out.at_ 2 rfl)
   have hdn : dL.length = (A.lessG i).ns.length := by rw [← fa, List.length_map]
   rw [fa] at hL
   have h3' : (A.nd A.root.toNat).kind = 3 := by rw [HRO.out, HXE.out]; exact H3.out
   have hi' : i < (A.nd A.root.toNat).labels.length := by rw [HRO.out, HXE.out]; exact HIL.out
   have hAn : A.ns.length + 1 ≤ 1048576 := by rw [HN_.out]; omega
   have cl0 := less_ok CA.out h3' hi' hAn
   have sl := less_shut CA.out h3' hi' hAn SA.out
   have q1 : subB A (A.lessG i) = true := less_sub CA.out h3' hi' hAn
   have q2 : subB (A.lessG i) A = false := less_not CA.out h3' hi' hAn
   have wl : (A.lessG i).weight ≤ 2097142 := by have := less_weight (i := i) (Graph.ok_of CA.out); have := WA.out; omega
   have ll : (A.lessG i).ns.length ≤ 301 := by have := less_len A i; rw [HN_.out] at this; omega
   have rl : (A.lessG i).root = 0 := rfl
   obtain ⟨L, hLL⟩ : ∃ L : Tre.Graph, A.lessG i = L := ⟨_, rfl⟩
   rw [hLL] at hL hdn cl0 sl q1 q2 wl ll rl
   have OL := Graph.ok_of cl0
   have hL0 : 0 < L.ns.length := by have h1 := OL.root0; have h2 := OL.root1; omega
   obtain ⟨gL, oL, rfl, hx0⟩ := hL.at_ 0 (L.nd 0) (by rw [Graph.nd_eq hL0]; exact List.getElem?_eq_getElem hL0)
   clear hx0
   obtain ⟨dsL, hdsL, hcsL, hvL⟩ := nodes_vals hL
   obtain ⟨m, hmL⟩ : ∃ m : Nat, L.ns.length = m := ⟨_, rfl⟩
   have P90 : Hid (w7.cell? ⟨b9, 0, none⟩ = some (.slice (some ⟨gL, oL, none⟩) m cL)) := by have h := HC.out.cell 0 rfl 0 rfl; rw [hdn, hmL] at h; exact h
   have P91 : Hid (w7.cell? ⟨b9, 1, none⟩ = some (.int .i64 0)) := HC.out.cell 0 rfl 1 rfl
   have P50 := Tre.hid (cell_below HC.out.below P50.out)
   have P51 := Tre.hid (cell_below HC.out.below P51.out)
   have HB7 := Tre.hid (below_below HB6.out HC.out.below)
   have hx7 := HX6.out.below HC.out.below
   have hA7 := HA6.out.below HC.out.below
   have hcA : ∀ j u, (dsA.flatMap NodeV.cells)[j]? = some u → w7.cell? ⟨gA, oA + j, none⟩ = some u := fun j u h => cell_below HC.out.below (HCA.out j u h)
   have hvA : ∀ d ∈ dsA, NodeVal w7 d := fun d hd => (HVA.out d hd).below HC.out.below
   have lA : dsA.length = n := by rw [← HN_.out, ← HDA.out, List.length_map]
   have lL : dsL.length = m := by rw [← hmL, ← hdsL, List.length_map]
   have ca0 := CA.out
   have sa := SA.out
   have wA := WA.out
   have rA := RA.out
   have hn := HN_.out
   have hdsA := HDA.out
   rw [hdn, hmL]
   clear HC fa hdn h3' hi' hAn hLL OL hL0 HX6 HA6 HCA HVA HB6 P60 P63 PS HXL hlab hlw hkq m1 m2 hn0 hn2 HMAY HRO HXE H3 HIL HFG
   have hCL : ∀ W, Below w7.heap.size w7 W → Calls Tryz.prog 14 #[.agg #[.slice (some ⟨gL, oL, none⟩) m cL, .int .i64 0]] W fun e w' => e = .returned (.bool true) ∧ Below W.heap.size W w' := fun W hW => by
    have K := closed_any (some ⟨gL, oL, none⟩) cL L W (hL.below hW) (by omega) (hx7.below hW)
    rw [closed_yes cl0 sl, hmL, rl] at K; exact K
   have hAL : ∀ W, Below w7.heap.size w7 W → Calls Tryz.prog 12 #[.agg #[.slice (some ⟨gA, oA, none⟩) n cA, .int .i64 0], .agg #[.slice (some ⟨gL, oL, none⟩) m cL, .int .i64 0]] W fun e w' => e = .returned (.bool true) ∧ Below W.heap.size W w' := fun W hW => by
    have K := mays_any (some ⟨gA, oA, none⟩) (some ⟨gL, oL, none⟩) cA cL A L W (hA7.below hW) (hL.below hW) (by omega) (by omega) (by omega) (by omega) (hx7.below hW) ca0 cl0 sa sl
    rw [q1, hn, hmL, rA, rl] at K; exact K
   have hLA : ∀ W, Below w7.heap.size w7 W → Calls Tryz.prog 12 #[.agg #[.slice (some ⟨gL, oL, none⟩) m cL, .int .i64 0], .agg #[.slice (some ⟨gA, oA, none⟩) n cA, .int .i64 0]] W fun e w' => e = .returned (.bool false) ∧ Below W.heap.size W w' := fun W hW => by
    have K := mays_any (some ⟨gL, oL, none⟩) (some ⟨gA, oA, none⟩) cL cA L A W (hL.below hW) (hA7.below hW) (by omega) (by omega) (by omega) (by omega) (hx7.below hW) cl0 ca0 sl sa
    rw [q2, hn, hmL, rA, rl] at K; exact K
   have HFLf : Hid (∀ W, Below w7.heap.size w7 W → Calls Tryz.prog 16 #[.agg #[.slice (some ⟨gL, oL, none⟩) m cL, .int .i64 0], .bool false] W fun e w' => ∃ a c k, e = .returned (.agg #[.slice a (m + 2) c, .int .i64 ((m : Int) + 1)]) ∧ Mem W w' [funR a c k dsL 0 (m : Int)]) := fun W hW => by
    have K := fun_any gL oL cL 0 dsL false W (fun j u h => cell_below hW (hcsL j u h)) (fun d hd => (hvL d hd).below hW) (by omega)
    rw [lL] at K
    exact K
   have HFLt : Hid (∀ W, Below w7.heap.size w7 W → Calls Tryz.prog 16 #[.agg #[.slice (some ⟨gL, oL, none⟩) m cL, .int .i64 0], .bool true] W fun e w' => ∃ a c k, e = .returned (.agg #[.slice a (m + 2) c, .int .i64 ((m : Int) + 1)]) ∧ Mem W w' [funR a c k dsL (m : Int) 0]) := fun W hW => by
    have K := fun_any gL oL cL 0 dsL true W (fun j u h => cell_below hW (hcsL j u h)) (fun d hd => (hvL d hd).below hW) (by omega)
    rw [lL] at K
    exact K
   have HFAf : Hid (∀ W, Below w7.heap.size w7 W → Calls Tryz.prog 16 #[.agg #[.slice (some ⟨gA, oA, none⟩) n cA, .int .i64 0], .bool false] W fun e w' => ∃ a c k, e = .returned (.agg #[.slice a (n + 2) c, .int .i64 ((n : Int) + 1)]) ∧ Mem W w' [funR a c k dsA 0 (n : Int)]) := fun W hW => by
    have K := fun_any gA oA cA 0 dsA false W (fun j u h => cell_below hW (hcA j u h)) (fun d hd => (hvA d hd).below hW) (by omega)
    rw [lA] at K
    exact K
   have HFAt : Hid (∀ W, Below w7.heap.size w7 W → Calls Tryz.prog 16 #[.agg #[.slice (some ⟨gA, oA, none⟩) n cA, .int .i64 0], .bool true] W fun e w' => ∃ a c k, e = .returned (.agg #[.slice a (n + 2) c, .int .i64 ((n : Int) + 1)]) ∧ Mem W w' [funR a c k dsA (n : Int) 0]) := fun W hW => by
    have K := fun_any gA oA cA 0 dsA true W (fun j u h => cell_below hW (hcA j u h)) (fun d hd => (hvA d hd).below hW) (by omega)
    rw [lA] at K
    exact K
   have HM85 : Hid (∀ (W : World) (a1 : Option Addr) (c1 k1 : Nat) (a2 : Option Addr) (c2 k2 : Nat), Below w7.heap.size w7 W → (funR a1 c1 k1 dsL 0 (m : Int)).P W → (funR a2 c2 k2 dsA 0 (n : Int)).P W → Calls Tryz.prog 12 #[.agg #[.slice a1 (m + 2) c1, .int .i64 ((m : Int) + 1)], .agg #[.slice a2 (n + 2) c2, .int .i64 ((n : Int) + 1)]] W fun e w' => e = .returned (.bool true) ∧ Below W.heap.size W w') := fun W a1 c1 k1 a2 c2 k2 hW r1 r2 => by
    have K := fun_may (t := false) hW r1 r2 hdsL hdsA hvL hvA hmL hn rl rA cl0 ca0 sl sa (by omega) (by omega) (by omega) (by omega) hx7
    simp only [Bool.false_eq_true, if_false] at K
    rw [q1] at K
    exact K
   have HM93 : Hid (∀ (W : World) (a1 : Option Addr) (c1 k1 : Nat) (a2 : Option Addr) (c2 k2 : Nat), Below w7.heap.size w7 W → (funR a1 c1 k1 dsA 0 (n : Int)).P W → (funR a2 c2 k2 dsL 0 (m : Int)).P W → Calls Tryz.prog 12 #[.agg #[.slice a1 (n + 2) c1, .int .i64 ((n : Int) + 1)], .agg #[.slice a2 (m + 2) c2, .int .i64 ((m : Int) + 1)]] W fun e w' => e = .returned (.bool false) ∧ Below W.heap.size W w') := fun W a1 c1 k1 a2 c2 k2 hW r1 r2 => by
    have K := fun_may (t := false) hW r1 r2 hdsA hdsL hvA hvL hn hmL rA rl ca0 cl0 sa sl (by omega) (by omega) (by omega) (by omega) hx7
    simp only [Bool.false_eq_true, if_false] at K
    rw [q2] at K
    exact K
   have HM103 : Hid (∀ (W : World) (a1 : Option Addr) (c1 k1 : Nat) (a2 : Option Addr) (c2 k2 : Nat), Below w7.heap.size w7 W → (funR a1 c1 k1 dsA (n : Int) 0).P W → (funR a2 c2 k2 dsL (m : Int) 0).P W → Calls Tryz.prog 12 #[.agg #[.slice a1 (n + 2) c1, .int .i64 ((n : Int) + 1)], .agg #[.slice a2 (m + 2) c2, .int .i64 ((m : Int) + 1)]] W fun e w' => e = .returned (.bool true) ∧ Below W.heap.size W w') := fun W a1 c1 k1 a2 c2 k2 hW r1 r2 => by
    have K := fun_may (t := true) hW r1 r2 hdsA hdsL hvA hvL hn hmL rA rl ca0 cl0 sa sl (by omega) (by omega) (by omega) (by omega) hx7
    simp only [if_true] at K
    rw [q1] at K
    exact K
   have HM112 : Hid (∀ (W : World) (a1 : Option Addr) (c1 k1 : Nat) (a2 : Option Addr) (c2 k2 : Nat), Below w7.heap.size w7 W → (funR a1 c1 k1 dsL (m : Int) 0).P W → (funR a2 c2 k2 dsA (n : Int) 0).P W → Calls Tryz.prog 12 #[.agg #[.slice a1 (m + 2) c1, .int .i64 ((m : Int) + 1)], .agg #[.slice a2 (n + 2) c2, .int .i64 ((n : Int) + 1)]] W fun e w' => e = .returned (.bool false) ∧ Below W.heap.size W w') := fun W a1 c1 k1 a2 c2 k2 hW r1 r2 => by
    have K := fun_may (t := true) hW r1 r2 hdsL hdsA hvL hvA hmL hn rl rA cl0 ca0 sl sa (by omega) (by omega) (by omega) (by omega) hx7
    simp only [if_true] at K
    rw [q2] at K
    exact K
   have HCL := Tre.hid hCL
   have HAL := Tre.hid hAL
   have HLA := Tre.hid hLA
   clear hCL hAL hLA hL hA7 hx7 ca0 cl0 sa sl q1 q2 wl ll rl wA rA hn hmL hdsA hdsL hcsL hvL hcA hvA lA lL CA SA WA RA HN_ HDA
   have p50 := P50.out
   have p51 := P51.out
   have p90 := P90.out
   have p91 := P91.out
   go_wp2_with fail
   refine (HCL.out _ (Below.refl _ _)).mono ?_
   rintro e w8 ⟨rfl, bq⟩
   have HQ8 : Hid (Mem w7 w8 []) := Mem.of_below bq
   clear bq p50 p51 p90 p91 HCL
   have p50 := cell_below HQ8.out.below P50.out
   have p51 := cell_below HQ8.out.below P51.out
   have p90 := cell_below HQ8.out.below P90.out
   have p91 := cell_below HQ8.out.below P91.out
   go_wp2_with fail
   refine (HAL.out _ HQ8.out.below).mono ?_
   rintro e wb ⟨rfl, bq⟩
   have HQ9 := Tre.hid (HQ8.out.quiet bq)
   clear bq p50 p51 p90 p91 HAL HQ8
   have p50 := cell_below HQ9.out.below P50.out
   have p51 := cell_below HQ9.out.below P51.out
   have p90 := cell_below HQ9.out.below P90.out
   have p91 := cell_below HQ9.out.below P91.out
   go_wp2_with fail
   refine (HLA.out _ HQ9.out.below).mono ?_
   rintro e w9 ⟨rfl, bq⟩
   have HQ := Tre.hid (HQ9.out.quiet bq)
   clear bq p50 p51 p90 p91 HLA HQ9
   go_upto_region 14 with fail
   have cS : Cond (fun w' => w'.cell? ⟨b5, 0, none⟩ = some (.slice (some ⟨gA, oA, none⟩) n cA) ∧ w'.cell? ⟨b5, 1, none⟩ = some (.int .i64 0) ∧ w'.cell? ⟨b9, 0, none⟩ = some (.slice (some ⟨gL, oL, none⟩) m cL) ∧ w'.cell? ⟨b9, 1, none⟩ = some (.int .i64 0)) := ⟨⟩
   refine wp_region_keep (S := (fun w' => w'.cell? ⟨b5, 0, none⟩ = some (.slice (some ⟨gA, oA, none⟩) n cA) ∧ w'.cell? ⟨b5, 1, none⟩ = some (.int .i64 0) ∧ w'.cell? ⟨b9, 0, none⟩ = some (.slice (some ⟨gL, oL, none⟩) m cL) ∧ w'.cell? ⟨b9, 1, none⟩ = some (.int .i64 0))) [] (by kernel_rfl) ?_ (fun hH => ?_)
   ·exact ⟨cell_below HQ.out.drew.below P50.out, cell_below HQ.out.drew.below P51.out, cell_below HQ.out.drew.below P90.out, cell_below HQ.out.drew.below P91.out⟩
   have HC := Tre.hid HQ.out.drew
   generalize hq : World.drew _ = wq0 at HC hH ⊢
   clear hq
   refine lPv 0 (some 79) (.func (.func 16) #[] #[]) (keep_of hH) ?_
   try simp only [Act.put, zqf, zqg, zqh]
   refine lTk 1 (some 80) (v := ?_) ?_ hH ?_
   rotate_left
   ·intro w hSw; (try dsimp only at hSw); simp only [zqa, zqb, zqc, zqd, zqe]; go_simp <;> with_reducible rfl
   try simp only [Act.put, zqf, zqg, zqh]
   refine lPv 3 (some 82) (.func (.func 16) #[] #[]) (keep_of hH) ?_
   try simp only [Act.put, zqf, zqg, zqh]
   refine lTk 4 (some 83) (v := ?_) ?_ hH ?_
   rotate_left
   ·intro w hSw; (try dsimp only at hSw); simp only [zqa, zqb, zqc, zqd, zqe]; go_simp <;> with_reducible rfl
   try simp only [Act.put, zqf, zqg, zqh]
   try simp only [Act.put, zqf, zqg, zqh]
   refine with_G (G0 := wpAnyL _ _ _ _ _ _) ?_
   intro G hG a0 hA
   have Z0 : Kept (∀ (a1 : Option Addr) (c1 : Nat) (k1 : Nat) (a2 : Option Addr) (c2 : Nat) (k2 : Nat) (a3 : Option Addr) (c3 : Nat) (k3 : Nat) (a4 : Option Addr) (c4 : Nat) (k4 : Nat) (a5 : Option Addr) (c5 : Nat) (k5 : Nat) (a6 : Option Addr) (c6 : Nat) (k6 : Nat) (a7 : Option Addr) (c7 : Nat) (k7 : Nat) (a8 : Option Addr) (c8 : Nat) (k8 : Nat) (wq : World), Hid (Mem w7 wq []) → G 0 (bt 37 137438953471) (((((((((((((((((((((((((((((((((a0.put (some 81) (.agg #[.slice a1 (m + 2) c1, .int .i64 ((m : Int) + 1)])).put (some 84) (.agg #[.slice a2 (n + 2) c2, .int .i64 ((n : Int) + 1)])).put (some 85) (.bool true)).put (some 86) (.bool true)).put (some 87) (.func (.func 16) #[] #[])).put (some 88) (.agg #[.slice (some ⟨gA, oA, none⟩) n cA, .int .i64 0])).put (some 89) (.agg #[.slice a3 (n + 2) c3, .int .i64 ((n : Int) + 1)])).put (some 90) (.func (.func 16) #[] #[])).put (some 91) (.agg #[.slice (some ⟨gL, oL, none⟩) m cL, .int .i64 0])).put (some 92) (.agg #[.slice a4 (m + 2) c4, .int .i64 ((m : Int) + 1)])).put (some 93) (.bool false)).put (some 94) (.bool true)).put (some 95) (.bool true)).put (some 96) (.bool true)).put (some 97) (.func (.func 16) #[] #[])).put (some 98) (.agg #[.slice (some ⟨gA, oA, none⟩) n cA, .int .i64 0])).put (some 99) (.agg #[.slice a5 (n + 2) c5, .int .i64 ((n : Int) + 1)])).put (some 100) (.func (.func 16) #[] #[])).put (some 101) (.agg #[.slice (some ⟨gL, oL, none⟩) m cL, .int .i64 0])).put (some 102) (.agg #[.slice a6 (m + 2) c6, .int .i64 ((m : Int) + 1)])).put (some 103) (.bool true)).put (some 104) (.bool true)).put (some 105) (.bool true)).put (some 106) (.func (.func 16) #[] #[])).put (some 107) (.agg #[.slice (some ⟨gL, oL, none⟩) m cL, .int .i64 0])).put (some 108) (.agg #[.slice a7 (m + 2) c7, .int .i64 ((m : Int) + 1)])).put (some 109) (.func (.func 16) #[] #[])).put (some 110) (.agg #[.slice (some ⟨gA, oA, none⟩) n cA, .int .i64 0])).put (some 111) (.agg #[.slice a8 (n + 2) c8, .int .i64 ((n : Int) + 1)])).put (some 112) (.bool false)).put (some 113) (.bool true)).put (some 114) (.bool true)).put (some 4) (.bool true)) wq) := ⟨by
    intro a1 c1 k1 a2 c2 k2 a3 c3 k3 a4 c4 k4 a5 c5 k5 a6 c6 k6 a7 c7 k7 a8 c8 k8 wq HC
    refine into_G hG ?_
    rw [hA.out]
    try simp only [Act.put, zqf, zqg, zqh]
    refine lDone (by kernel_rfl) ?_
    clear hA hG
    go_wp2_with fail
    go_ret
    exact ⟨rfl, below_below HB7.out HC.out.below⟩
   ⟩
   have Z1 : Kept (∀ (a1 : Option Addr) (c1 : Nat) (k1 : Nat) (a2 : Option Addr) (c2 : Nat) (k2 : Nat) (a3 : Option Addr) (c3 : Nat) (k3 : Nat) (a4 : Option Addr) (c4 : Nat) (k4 : Nat) (a5 : Option Addr) (c5 : Nat) (k5 : Nat) (a6 : Option Addr) (c6 : Nat) (k6 : Nat) (a7 : Option Addr) (c7 : Nat) (k7 : Nat) (a8 : Option Addr) (c8 : Nat) (k8 : Nat) (wq : World), Hid (Mem w7 wq [funR a7 c7 k7 dsL (m : Int) 0, funR a8 c8 k8 dsA (n : Int) 0]) → G 4 (bt 37 8589934591) (((((((((((((((((((((((((((((a0.put (some 81) (.agg #[.slice a1 (m + 2) c1, .int .i64 ((m : Int) + 1)])).put (some 84) (.agg #[.slice a2 (n + 2) c2, .int .i64 ((n : Int) + 1)])).put (some 85) (.bool true)).put (some 86) (.bool true)).put (some 87) (.func (.func 16) #[] #[])).put (some 88) (.agg #[.slice (some ⟨gA, oA, none⟩) n cA, .int .i64 0])).put (some 89) (.agg #[.slice a3 (n + 2) c3, .int .i64 ((n : Int) + 1)])).put (some 90) (.func (.func 16) #[] #[])).put (some 91) (.agg #[.slice (some ⟨gL, oL, none⟩) m cL, .int .i64 0])).put (some 92) (.agg #[.slice a4 (m + 2) c4, .int .i64 ((m : Int) + 1)])).put (some 93) (.bool false)).put (some 94) (.bool true)).put (some 95) (.bool true)).put (some 96) (.bool true)).put (some 97) (.func (.func 16) #[] #[])).put (some 98) (.agg #[.slice (some ⟨gA, oA, none⟩) n cA, .int .i64 0])).put (some 99) (.agg #[.slice a5 (n + 2) c5, .int .i64 ((n : Int) + 1)])).put (some 100) (.func (.func 16) #[] #[])).put (some 101) (.agg #[.slice (some ⟨gL, oL, none⟩) m cL, .int .i64 0])).put (some 102) (.agg #[.slice a6 (m + 2) c6, .int .i64 ((m : Int) + 1)])).put (some 103) (.bool true)).put (some 104) (.bool true)).put (some 105) (.bool true)).put (some 106) (.func (.func 16) #[] #[])).put (some 107) (.agg #[.slice (some ⟨gL, oL, none⟩) m cL, .int .i64 0])).put (some 108) (.agg #[.slice a7 (m + 2) c7, .int .i64 ((m : Int) + 1)])).put (some 109) (.func (.func 16) #[] #[])).put (some 110) (.agg #[.slice (some ⟨gA, oA, none⟩) n cA, .int .i64 0])).put (some 111) (.agg #[.slice a8 (n + 2) c8, .int .i64 ((n : Int) + 1)])) wq) := ⟨by
    intro a1 c1 k1 a2 c2 k2 a3 c3 k3 a4 c4 k4 a5 c5 k5 a6 c6 k6 a7 c7 k7 a8 c8 k8 wq HC
    refine into_G hG ?_
    rw [hA.out]
    try simp only [Act.put, zqf, zqg, zqh]
    have hH := cS.is (w := wq) (⟨cell_below HC.out.below P50.out, cell_below HC.out.below P51.out, cell_below HC.out.below P90.out, cell_below HC.out.below P91.out⟩)
    refine lOne 33 (by kernel_rfl) ?_
    ·
     refine (LStep.op (fun K hK => ?_))
     go_simp
     refine (HM112.out _ _ _ _ _ _ _ HC.out.below (HC.out.at_ 0 rfl) (HC.out.at_ 1 rfl)).mono ?_
     rintro e wr ⟨rfl, bq⟩
     have HN := Tre.hid (((HC.out.quiet bq).del 1).del 0)
     clear bq
     (try dsimp only)
     refine hK.out _ _ ?_ (fun hH2 => ?_)
     ·exact ⟨cell_below HN.out.below P50.out, cell_below HN.out.below P51.out, cell_below HN.out.below P90.out, cell_below HN.out.below P91.out⟩
     refine lPv 34 (some 113) (.bool true) (keep_of hH2) ?_
     refine lPv 35 (some 114) (.bool true) (keep_of hH2) ?_
     refine lPv 36 (some 4) (.bool true) (keep_of hH2) ?_
     exact outof_G hG (Z0.out a1 c1 k1 a2 c2 k2 a3 c3 k3 a4 c4 k4 a5 c5 k5 a6 c6 k6 a7 c7 k7 a8 c8 k8 wr HN) (by kernel_rfl) (by rw [hA.out]; try kernel_rfl)
   ⟩
   have Z2 : Kept (∀ (a1 : Option Addr) (c1 : Nat) (k1 : Nat) (a2 : Option Addr) (c2 : Nat) (k2 : Nat) (a3 : Option Addr) (c3 : Nat) (k3 : Nat) (a4 : Option Addr) (c4 : Nat) (k4 : Nat) (a5 : Option Addr) (c5 : Nat) (k5 : Nat) (a6 : Option Addr) (c6 : Nat) (k6 : Nat) (a7 : Option Addr) (c7 : Nat) (k7 : Nat) (wq : World), Hid (Mem w7 wq [funR a7 c7 k7 dsL (m : Int) 0]) → G 5 (bt 37 4294967295) ((((((((((((((((((((((((((((a0.put (some 81) (.agg #[.slice a1 (m + 2) c1, .int .i64 ((m : Int) + 1)])).put (some 84) (.agg #[.slice a2 (n + 2) c2, .int .i64 ((n : Int) + 1)])).put (some 85) (.bool true)).put (some 86) (.bool true)).put (some 87) (.func (.func 16) #[] #[])).put (some 88) (.agg #[.slice (some ⟨gA, oA, none⟩) n cA, .int .i64 0])).put (some 89) (.agg #[.slice a3 (n + 2) c3, .int .i64 ((n : Int) + 1)])).put (some 90) (.func (.func 16) #[] #[])).put (some 91) (.agg #[.slice (some ⟨gL, oL, none⟩) m cL, .int .i64 0])).put (some 92) (.agg #[.slice a4 (m + 2) c4, .int .i64 ((m : Int) + 1)])).put (some 93) (.bool false)).put (some 94) (.bool true)).put (some 95) (.bool true)).put (some 96) (.bool true)).put (some 97) (.func (.func 16) #[] #[])).put (some 98) (.agg #[.slice (some ⟨gA, oA, none⟩) n cA, .int .i64 0])).put (some 99) (.agg #[.slice a5 (n + 2) c5, .int .i64 ((n : Int) + 1)])).put (some 100) (.func (.func 16) #[] #[])).put (some 101) (.agg #[.slice (some ⟨gL, oL, none⟩) m cL, .int .i64 0])).put (some 102) (.agg #[.slice a6 (m + 2) c6, .int .i64 ((m : Int) + 1)])).put (some 103) (.bool true)).put (some 104) (.bool true)).put (some 105) (.bool true)).put (some 106) (.func (.func 16) #[] #[])).put (some 107) (.agg #[.slice (some ⟨gL, oL, none⟩) m cL, .int .i64 0])).put (some 108) (.agg #[.slice a7 (m + 2) c7, .int .i64 ((m : Int) + 1)])).put (some 109) (.func (.func 16) #[] #[])).put (some 110) (.agg #[.slice (some ⟨gA, oA, none⟩) n cA, .int .i64 0])) wq) := ⟨by
    intro a1 c1 k1 a2 c2 k2 a3 c3 k3 a4 c4 k4 a5 c5 k5 a6 c6 k6 a7 c7 k7 wq HC
    refine into_G hG ?_
    rw [hA.out]
    try simp only [Act.put, zqf, zqg, zqh]
    have hH := cS.is (w := wq) (⟨cell_below HC.out.below P50.out, cell_below HC.out.below P51.out, cell_below HC.out.below P90.out, cell_below HC.out.below P91.out⟩)
    refine lOne 32 (by kernel_rfl) ?_
    ·
     refine (LStep.op (fun K hK => ?_))
     go_simp
     refine (HFAt.out _ HC.out.below).mono ?_
     rintro e wr ⟨a8, c8, k8, rfl, mq⟩
     have HN := Tre.hid (HC.out.call mq)
     clear mq
     (try dsimp only)
     have HC := Tre.hid ((HN.out.front 0 rfl).front 1 rfl)
     clear HN
     refine hK.out _ _ ?_ (fun hH2 => ?_)
     ·exact ⟨cell_below HC.out.below P50.out, cell_below HC.out.below P51.out, cell_below HC.out.below P90.out, cell_below HC.out.below P91.out⟩
     exact outof_G hG (Z1.out a1 c1 k1 a2 c2 k2 a3 c3 k3 a4 c4 k4 a5 c5 k5 a6 c6 k6 a7 c7 k7 a8 c8 k8 wr HC) (by kernel_rfl) (by rw [hA.out]; try kernel_rfl)
   ⟩
   have Z3 : Kept (∀ (a1 : Option Addr) (c1 : Nat) (k1 : Nat) (a2 : Option Addr) (c2 : Nat) (k2 : Nat) (a3 : Option Addr) (c3 : Nat) (k3 : Nat) (a4 : Option Addr) (c4 : Nat) (k4 : Nat) (a5 : Option Addr) (c5 : Nat) (k5 : Nat) (a6 : Option Addr) (c6 : Nat) (k6 : Nat) (wq : World), Hid (Mem w7 wq []) → G 6 (bt 37 3758096383) (((((((((((((((((((((((((((a0.put (some 81) (.agg #[.slice a1 (m + 2) c1, .int .i64 ((m : Int) + 1)])).put (some 84) (.agg #[.slice a2 (n + 2) c2, .int .i64 ((n : Int) + 1)])).put (some 85) (.bool true)).put (some 86) (.bool true)).put (some 87) (.func (.func 16) #[] #[])).put (some 88) (.agg #[.slice (some ⟨gA, oA, none⟩) n cA, .int .i64 0])).put (some 89) (.agg #[.slice a3 (n + 2) c3, .int .i64 ((n : Int) + 1)])).put (some 90) (.func (.func 16) #[] #[])).put (some 91) (.agg #[.slice (some ⟨gL, oL, none⟩) m cL, .int .i64 0])).put (some 92) (.agg #[.slice a4 (m + 2) c4, .int .i64 ((m : Int) + 1)])).put (some 93) (.bool false)).put (some 94) (.bool true)).put (some 95) (.bool true)).put (some 96) (.bool true)).put (some 97) (.func (.func 16) #[] #[])).put (some 98) (.agg #[.slice (some ⟨gA, oA, none⟩) n cA, .int .i64 0])).put (some 99) (.agg #[.slice a5 (n + 2) c5, .int .i64 ((n : Int) + 1)])).put (some 100) (.func (.func 16) #[] #[])).put (some 101) (.agg #[.slice (some ⟨gL, oL, none⟩) m cL, .int .i64 0])).put (some 102) (.agg #[.slice a6 (m + 2) c6, .int .i64 ((m : Int) + 1)])).put (some 103) (.bool true)).put (some 104) (.bool true)).put (some 105) (.bool true)).put (some 106) (.func (.func 16) #[] #[])).put (some 107) (.agg #[.slice (some ⟨gL, oL, none⟩) m cL, .int .i64 0])).put (some 109) (.func (.func 16) #[] #[])).put (some 110) (.agg #[.slice (some ⟨gA, oA, none⟩) n cA, .int .i64 0])) wq) := ⟨by
    intro a1 c1 k1 a2 c2 k2 a3 c3 k3 a4 c4 k4 a5 c5 k5 a6 c6 k6 wq HC
    refine into_G hG ?_
    rw [hA.out]
    try simp only [Act.put, zqf, zqg, zqh]
    have hH := cS.is (w := wq) (⟨cell_below HC.out.below P50.out, cell_below HC.out.below P51.out, cell_below HC.out.below P90.out, cell_below HC.out.below P91.out⟩)
    refine lOne 29 (by kernel_rfl) ?_
    ·
     refine (LStep.op (fun K hK => ?_))
     go_simp
     refine (HFLt.out _ HC.out.below).mono ?_
     rintro e wr ⟨a7, c7, k7, rfl, mq⟩
     have HN := Tre.hid (HC.out.call mq)
     clear mq
     (try dsimp only)
     refine hK.out _ _ ?_ (fun hH2 => ?_)
     ·exact ⟨cell_below HN.out.below P50.out, cell_below HN.out.below P51.out, cell_below HN.out.below P90.out, cell_below HN.out.below P91.out⟩
     exact outof_G hG (Z2.out a1 c1 k1 a2 c2 k2 a3 c3 k3 a4 c4 k4 a5 c5 k5 a6 c6 k6 a7 c7 k7 wr HN) (by kernel_rfl) (by rw [hA.out]; try kernel_rfl)
   ⟩
   have Z4 : Kept (∀ (a1 : Option Addr) (c1 : Nat) (k1 : Nat) (a2 : Option Addr) (c2 : Nat) (k2 : Nat) (a3 : Option Addr) (c3 : Nat) (k3 : Nat) (a4 : Option Addr) (c4 : Nat) (k4 : Nat) (a5 : Option Addr) (c5 : Nat) (k5 : Nat) (a6 : Option Addr) (c6 : Nat) (k6 : Nat) (wq : World), Hid (Mem w7 wq [funR a5 c5 k5 dsA (n : Int) 0, funR a6 c6 k6 dsL (m : Int) 0]) → G 13 (bt 37 16777215) ((((((((((((((((((((a0.put (some 81) (.agg #[.slice a1 (m + 2) c1, .int .i64 ((m : Int) + 1)])).put (some 84) (.agg #[.slice a2 (n + 2) c2, .int .i64 ((n : Int) + 1)])).put (some 85) (.bool true)).put (some 86) (.bool true)).put (some 87) (.func (.func 16) #[] #[])).put (some 88) (.agg #[.slice (some ⟨gA, oA, none⟩) n cA, .int .i64 0])).put (some 89) (.agg #[.slice a3 (n + 2) c3, .int .i64 ((n : Int) + 1)])).put (some 90) (.func (.func 16) #[] #[])).put (some 91) (.agg #[.slice (some ⟨gL, oL, none⟩) m cL, .int .i64 0])).put (some 92) (.agg #[.slice a4 (m + 2) c4, .int .i64 ((m : Int) + 1)])).put (some 93) (.bool false)).put (some 94) (.bool true)).put (some 95) (.bool true)).put (some 96) (.bool true)).put (some 97) (.func (.func 16) #[] #[])).put (some 98) (.agg #[.slice (some ⟨gA, oA, none⟩) n cA, .int .i64 0])).put (some 99) (.agg #[.slice a5 (n + 2) c5, .int .i64 ((n : Int) + 1)])).put (some 100) (.func (.func 16) #[] #[])).put (some 101) (.agg #[.slice (some ⟨gL, oL, none⟩) m cL, .int .i64 0])).put (some 102) (.agg #[.slice a6 (m + 2) c6, .int .i64 ((m : Int) + 1)])) wq) := ⟨by
    intro a1 c1 k1 a2 c2 k2 a3 c3 k3 a4 c4 k4 a5 c5 k5 a6 c6 k6 wq HC
    refine into_G hG ?_
    rw [hA.out]
    try simp only [Act.put, zqf, zqg, zqh]
    have hH := cS.is (w := wq) (⟨cell_below HC.out.below P50.out, cell_below HC.out.below P51.out, cell_below HC.out.below P90.out, cell_below HC.out.below P91.out⟩)
    refine lOne 24 (by kernel_rfl) ?_
    ·
     refine (LStep.op (fun K hK => ?_))
     go_simp
     refine (HM103.out _ _ _ _ _ _ _ HC.out.below (HC.out.at_ 0 rfl) (HC.out.at_ 1 rfl)).mono ?_
     rintro e wr ⟨rfl, bq⟩
     have HN := Tre.hid (((HC.out.quiet bq).del 1).del 0)
     clear bq
     (try dsimp only)
     refine hK.out _ _ ?_ (fun hH2 => ?_)
     ·exact ⟨cell_below HN.out.below P50.out, cell_below HN.out.below P51.out, cell_below HN.out.below P90.out, cell_below HN.out.below P91.out⟩
     refine lPv 25 (some 104) (.bool true) (keep_of hH2) ?_
     refine lPv 26 (some 105) (.bool true) (keep_of hH2) ?_
     refine lPv 27 (some 106) (.func (.func 16) #[] #[]) (keep_of hH2) ?_
     try simp only [Act.put, zqf, zqg, zqh]
     refine lTk 28 (some 107) (v := ?_) ?_ hH2 ?_
     rotate_left
     ·intro w hSw; (try dsimp only at hSw); simp only [zqa, zqb, zqc, zqd, zqe]; go_simp <;> with_reducible rfl
     try simp only [Act.put, zqf, zqg, zqh]
     refine lPv 30 (some 109) (.func (.func 16) #[] #[]) (keep_of hH2) ?_
     try simp only [Act.put, zqf, zqg, zqh]
     refine lTk 31 (some 110) (v := ?_) ?_ hH2 ?_
     rotate_left
     ·intro w hSw; (try dsimp only at hSw); simp only [zqa, zqb, zqc, zqd, zqe]; go_simp <;> with_reducible rfl
     try simp only [Act.put, zqf, zqg, zqh]
     exact outof_G hG (Z3.out a1 c1 k1 a2 c2 k2 a3 c3 k3 a4 c4 k4 a5 c5 k5 a6 c6 k6 wr HN) (by kernel_rfl) (by rw [hA.out]; try kernel_rfl)
   ⟩
   have Z5 : Kept (∀ (a1 : Option Addr) (c1 : Nat) (k1 : Nat) (a2 : Option Addr) (c2 : Nat) (k2 : Nat) (a3 : Option Addr) (c3 : Nat) (k3 : Nat) (a4 : Option Addr) (c4 : Nat) (k4 : Nat) (a5 : Option Addr) (c5 : Nat) (k5 : Nat) (wq : World), Hid (Mem w7 wq [funR a5 c5 k5 dsA (n : Int) 0]) → G 14 (bt 37 8388607) (((((((((((((((((((a0.put (some 81) (.agg #[.slice a1 (m + 2) c1, .int .i64 ((m : Int) + 1)])).put (some 84) (.agg #[.slice a2 (n + 2) c2, .int .i64 ((n : Int) + 1)])).put (some 85) (.bool true)).put (some 86) (.bool true)).put (some 87) (.func (.func 16) #[] #[])).put (some 88) (.agg #[.slice (some ⟨gA, oA, none⟩) n cA, .int .i64 0])).put (some 89) (.agg #[.slice a3 (n + 2) c3, .int .i64 ((n : Int) + 1)])).put (some 90) (.func (.func 16) #[] #[])).put (some 91) (.agg #[.slice (some ⟨gL, oL, none⟩) m cL, .int .i64 0])).put (some 92) (.agg #[.slice a4 (m + 2) c4, .int .i64 ((m : Int) + 1)])).put (some 93) (.bool false)).put (some 94) (.bool true)).put (some 95) (.bool true)).put (some 96) (.bool true)).put (some 97) (.func (.func 16) #[] #[])).put (some 98) (.agg #[.slice (some ⟨gA, oA, none⟩) n cA, .int .i64 0])).put (some 99) (.agg #[.slice a5 (n + 2) c5, .int .i64 ((n : Int) + 1)])).put (some 100) (.func (.func 16) #[] #[])).put (some 101) (.agg #[.slice (some ⟨gL, oL, none⟩) m cL, .int .i64 0])) wq) := ⟨by
    intro a1 c1 k1 a2 c2 k2 a3 c3 k3 a4 c4 k4 a5 c5 k5 wq HC
    refine into_G hG ?_
    rw [hA.out]
    try simp only [Act.put, zqf, zqg, zqh]
    have hH := cS.is (w := wq) (⟨cell_below HC.out.below P50.out, cell_below HC.out.below P51.out, cell_below HC.out.below P90.out, cell_below HC.out.below P91.out⟩)
    refine lOne 23 (by kernel_rfl) ?_
    ·
     refine (LStep.op (fun K hK => ?_))
     go_simp
     refine (HFLt.out _ HC.out.below).mono ?_
     rintro e wr ⟨a6, c6, k6, rfl, mq⟩
     have HN := Tre.hid (HC.out.call mq)
     clear mq
     (try dsimp only)
     have HC := Tre.hid ((HN.out.front 0 rfl).front 1 rfl)
     clear HN
     refine hK.out _ _ ?_ (fun hH2 => ?_)
     ·exact ⟨cell_below HC.out.below P50.out, cell_below HC.out.below P51.out, cell_below HC.out.below P90.out, cell_below HC.out.below P91.out⟩
     exact outof_G hG (Z4.out a1 c1 k1 a2 c2 k2 a3 c3 k3 a4 c4 k4 a5 c5 k5 a6 c6 k6 wr HC) (by kernel_rfl) (by rw [hA.out]; try kernel_rfl)
   ⟩
   have Z6 : Kept (∀ (a1 : Option Addr) (c1 : Nat) (k1 : Nat) (a2 : Option Addr) (c2 : Nat) (k2 : Nat) (a3 : Option Addr) (c3 : Nat) (k3 : Nat) (a4 : Option Addr) (c4 : Nat) (k4 : Nat) (wq : World), Hid (Mem w7 wq []) → G 15 (bt 37 7340031) ((((((((((((((((((a0.put (some 81) (.agg #[.slice a1 (m + 2) c1, .int .i64 ((m : Int) + 1)])).put (some 84) (.agg #[.slice a2 (n + 2) c2, .int .i64 ((n : Int) + 1)])).put (some 85) (.bool true)).put (some 86) (.bool true)).put (some 87) (.func (.func 16) #[] #[])).put (some 88) (.agg #[.slice (some ⟨gA, oA, none⟩) n cA, .int .i64 0])).put (some 89) (.agg #[.slice a3 (n + 2) c3, .int .i64 ((n : Int) + 1)])).put (some 90) (.func (.func 16) #[] #[])).put (some 91) (.agg #[.slice (some ⟨gL, oL, none⟩) m cL, .int .i64 0])).put (some 92) (.agg #[.slice a4 (m + 2) c4, .int .i64 ((m : Int) + 1)])).put (some 93) (.bool false)).put (some 94) (.bool true)).put (some 95) (.bool true)).put (some 96) (.bool true)).put (some 97) (.func (.func 16) #[] #[])).put (some 98) (.agg #[.slice (some ⟨gA, oA, none⟩) n cA, .int .i64 0])).put (some 100) (.func (.func 16) #[] #[])).put (some 101) (.agg #[.slice (some ⟨gL, oL, none⟩) m cL, .int .i64 0])) wq) := ⟨by
    intro a1 c1 k1 a2 c2 k2 a3 c3 k3 a4 c4 k4 wq HC
    refine into_G hG ?_
    rw [hA.out]
    try simp only [Act.put, zqf, zqg, zqh]
    have hH := cS.is (w := wq) (⟨cell_below HC.out.below P50.out, cell_below HC.out.below P51.out, cell_below HC.out.below P90.out, cell_below HC.out.below P91.out⟩)
    refine lOne 20 (by kernel_rfl) ?_
    ·
     refine (LStep.op (fun K hK => ?_))
     go_simp
     refine (HFAt.out _ HC.out.below).mono ?_
     rintro e wr ⟨a5, c5, k5, rfl, mq⟩
     have HN := Tre.hid (HC.out.call mq)
     clear mq
     (try dsimp only)
     refine hK.out _ _ ?_ (fun hH2 => ?_)
     ·exact ⟨cell_below HN.out.below P50.out, cell_below HN.out.below P51.out, cell_below HN.out.below P90.out, cell_below HN.out.below P91.out⟩
     exact outof_G hG (Z5.out a1 c1 k1 a2 c2 k2 a3 c3 k3 a4 c4 k4 a5 c5 k5 wr HN) (by kernel_rfl) (by rw [hA.out]; try kernel_rfl)
   ⟩
   have Z7 : Kept (∀ (a1 : Option Addr) (c1 : Nat) (k1 : Nat) (a2 : Option Addr) (c2 : Nat) (k2 : Nat) (a3 : Option Addr) (c3 : Nat) (k3 : Nat) (a4 : Option Addr) (c4 : Nat) (k4 : Nat) (wq : World), Hid (Mem w7 wq [funR a3 c3 k3 dsA 0 (n : Int), funR a4 c4 k4 dsL 0 (m : Int)]) → G 23 (bt 37 16383) ((((((((((a0.put (some 81) (.agg #[.slice a1 (m + 2) c1, .int .i64 ((m : Int) + 1)])).put (some 84) (.agg #[.slice a2 (n + 2) c2, .int .i64 ((n : Int) + 1)])).put (some 85) (.bool true)).put (some 86) (.bool true)).put (some 87) (.func (.func 16) #[] #[])).put (some 88) (.agg #[.slice (some ⟨gA, oA, none⟩) n cA, .int .i64 0])).put (some 89) (.agg #[.slice a3 (n + 2) c3, .int .i64 ((n : Int) + 1)])).put (some 90) (.func (.func 16) #[] #[])).put (some 91) (.agg #[.slice (some ⟨gL, oL, none⟩) m cL, .int .i64 0])).put (some 92) (.agg #[.slice a4 (m + 2) c4, .int .i64 ((m : Int) + 1)])) wq) := ⟨by
    intro a1 c1 k1 a2 c2 k2 a3 c3 k3 a4 c4 k4 wq HC
    refine into_G hG ?_
    rw [hA.out]
    try simp only [Act.put, zqf, zqg, zqh]
    have hH := cS.is (w := wq) (⟨cell_below HC.out.below P50.out, cell_below HC.out.below P51.out, cell_below HC.out.below P90.out, cell_below HC.out.below P91.out⟩)
    refine lOne 14 (by kernel_rfl) ?_
    ·
     refine (LStep.op (fun K hK => ?_))
     go_simp
     refine (HM93.out _ _ _ _ _ _ _ HC.out.below (HC.out.at_ 0 rfl) (HC.out.at_ 1 rfl)).mono ?_
     rintro e wr ⟨rfl, bq⟩
     have HN := Tre.hid (((HC.out.quiet bq).del 1).del 0)
     clear bq
     (try dsimp only)
     refine hK.out _ _ ?_ (fun hH2 => ?_)
     ·exact ⟨cell_below HN.out.below P50.out, cell_below HN.out.below P51.out, cell_below HN.out.below P90.out, cell_below HN.out.below P91.out⟩
     refine lPv 15 (some 94) (.bool true) (keep_of hH2) ?_
     refine lPv 16 (some 95) (.bool true) (keep_of hH2) ?_
     refine lPv 17 (some 96) (.bool true) (keep_of hH2) ?_
     refine lPv 18 (some 97) (.func (.func 16) #[] #[]) (keep_of hH2) ?_
     try simp only [Act.put, zqf, zqg, zqh]
     refine lTk 19 (some 98) (v := ?_) ?_ hH2 ?_
     rotate_left
     ·intro w hSw; (try dsimp only at hSw); simp only [zqa, zqb, zqc, zqd, zqe]; go_simp <;> with_reducible rfl
     try simp only [Act.put, zqf, zqg, zqh]
     refine lPv 21 (some 100) (.func (.func 16) #[] #[]) (keep_of hH2) ?_
     try simp only [Act.put, zqf, zqg, zqh]
     refine lTk 22 (some 101) (v := ?_) ?_ hH2 ?_
     rotate_left
     ·intro w hSw; (try dsimp only at hSw); simp only [zqa, zqb, zqc, zqd, zqe]; go_simp <;> with_reducible rfl
     try simp only [Act.put, zqf, zqg, zqh]
     exact outof_G hG (Z6.out a1 c1 k1 a2 c2 k2 a3 c3 k3 a4 c4 k4 wr HN) (by kernel_rfl) (by rw [hA.out]; try kernel_rfl)
   ⟩
   have Z8 : Kept (∀ (a1 : Option Addr) (c1 : Nat) (k1 : Nat) (a2 : Option Addr) (c2 : Nat) (k2 : Nat) (a3 : Option Addr) (c3 : Nat) (k3 : Nat) (wq : World), Hid (Mem w7 wq [funR a3 c3 k3 dsA 0 (n : Int)]) → G 24 (bt 37 8191) (((((((((a0.put (some 81) (.agg #[.slice a1 (m + 2) c1, .int .i64 ((m : Int) + 1)])).put (some 84) (.agg #[.slice a2 (n + 2) c2, .int .i64 ((n : Int) + 1)])).put (some 85) (.bool true)).put (some 86) (.bool true)).put (some 87) (.func (.func 16) #[] #[])).put (some 88) (.agg #[.slice (some ⟨gA, oA, none⟩) n cA, .int .i64 0])).put (some 89) (.agg #[.slice a3 (n + 2) c3, .int .i64 ((n : Int) + 1)])).put (some 90) (.func (.func 16) #[] #[])).put (some 91) (.agg #[.slice (some ⟨gL, oL, none⟩) m cL, .int .i64 0])) wq) := ⟨by
    intro a1 c1 k1 a2 c2 k2 a3 c3 k3 wq HC
    refine into_G hG ?_
    rw [hA.out]
    try simp only [Act.put, zqf, zqg, zqh]
    have hH := cS.is (w := wq) (⟨cell_below HC.out.below P50.out, cell_below HC.out.below P51.out, cell_below HC.out.below P90.out, cell_below HC.out.below P91.out⟩)
    refine lOne 13 (by kernel_rfl) ?_
    ·
     refine (LStep.op (fun K hK => ?_))
     go_simp
     refine (HFLf.out _ HC.out.below).mono ?_
     rintro e wr ⟨a4, c4, k4, rfl, mq⟩
     have HN := Tre.hid (HC.out.call mq)
     clear mq
     (try dsimp only)
     have HC := Tre.hid ((HN.out.front 0 rfl).front 1 rfl)
     clear HN
     refine hK.out _ _ ?_ (fun hH2 => ?_)
     ·exact ⟨cell_below HC.out.below P50.out, cell_below HC.out.below P51.out, cell_below HC.out.below P90.out, cell_below HC.out.below P91.out⟩
     exact outof_G hG (Z7.out a1 c1 k1 a2 c2 k2 a3 c3 k3 a4 c4 k4 wr HC) (by kernel_rfl) (by rw [hA.out]; try kernel_rfl)
   ⟩
   have Z9 : Kept (∀ (a1 : Option Addr) (c1 : Nat) (k1 : Nat) (a2 : Option Addr) (c2 : Nat) (k2 : Nat) (wq : World), Hid (Mem w7 wq []) → G 25 (bt 37 7167) ((((((((a0.put (some 81) (.agg #[.slice a1 (m + 2) c1, .int .i64 ((m : Int) + 1)])).put (some 84) (.agg #[.slice a2 (n + 2) c2, .int .i64 ((n : Int) + 1)])).put (some 85) (.bool true)).put (some 86) (.bool true)).put (some 87) (.func (.func 16) #[] #[])).put (some 88) (.agg #[.slice (some ⟨gA, oA, none⟩) n cA, .int .i64 0])).put (some 90) (.func (.func 16) #[] #[])).put (some 91) (.agg #[.slice (some ⟨gL, oL, none⟩) m cL, .int .i64 0])) wq) := ⟨by
    intro a1 c1 k1 a2 c2 k2 wq HC
    refine into_G hG ?_
    rw [hA.out]
    try simp only [Act.put, zqf, zqg, zqh]
    have hH := cS.is (w := wq) (⟨cell_below HC.out.below P50.out, cell_below HC.out.below P51.out, cell_below HC.out.below P90.out, cell_below HC.out.below P91.out⟩)
    refine lOne 10 (by kernel_rfl) ?_
    ·
     refine (LStep.op (fun K hK => ?_))
     go_simp
     refine (HFAf.out _ HC.out.below).mono ?_
     rintro e wr ⟨a3, c3, k3, rfl, mq⟩
     have HN := Tre.hid (HC.out.call mq)
     clear mq
     (try dsimp only)
     refine hK.out _ _ ?_ (fun hH2 => ?_)
     ·exact ⟨cell_below HN.out.below P50.out, cell_below HN.out.below P51.out, cell_below HN.out.below P90.out, cell_below HN.out.below P91.out⟩
     exact outof_G hG (Z8.out a1 c1 k1 a2 c2 k2 a3 c3 k3 wr HN) (by kernel_rfl) (by rw [hA.out]; try kernel_rfl)
   ⟩
   have Z10 : Kept (∀ (a1 : Option Addr) (c1 : Nat) (k1 : Nat) (a2 : Option Addr) (c2 : Nat) (k2 : Nat) (wq : World), Hid (Mem w7 wq [funR a1 c1 k1 dsL 0 (m : Int), funR a2 c2 k2 dsA 0 (n : Int)]) → G 31 (bt 37 63) ((a0.put (some 81) (.agg #[.slice a1 (m + 2) c1, .int .i64 ((m : Int) + 1)])).put (some 84) (.agg #[.slice a2 (n + 2) c2, .int .i64 ((n : Int) + 1)])) wq) := ⟨by
    intro a1 c1 k1 a2 c2 k2 wq HC
    refine into_G hG ?_
    rw [hA.out]
    try simp only [Act.put, zqf, zqg, zqh]
    have hH := cS.is (w := wq) (⟨cell_below HC.out.below P50.out, cell_below HC.out.below P51.out, cell_below HC.out.below P90.out, cell_below HC.out.below P91.out⟩)
    refine lOne 6 (by kernel_rfl) ?_
    ·
     refine (LStep.op (fun K hK => ?_))
     go_simp
     refine (HM85.out _ _ _ _ _ _ _ HC.out.below (HC.out.at_ 0 rfl) (HC.out.at_ 1 rfl)).mono ?_
     rintro e wr ⟨rfl, bq⟩
     have HN := Tre.hid (((HC.out.quiet bq).del 1).del 0)
     clear bq
     (try dsimp only)
     refine hK.out _ _ ?_ (fun hH2 => ?_)
     ·exact ⟨cell_below HN.out.below P50.out, cell_below HN.out.below P51.out, cell_below HN.out.below P90.out, cell_below HN.out.below P91.out⟩
     refine lPv 7 (some 86) (.bool true) (keep_of hH2) ?_
     refine lPv 8 (some 87) (.func (.func 16) #[] #[]) (keep_of hH2) ?_
     try simp only [Act.put, zqf, zqg, zqh]
     refine lTk 9 (some 88) (v := ?_) ?_ hH2 ?_
     rotate_left
     ·intro w hSw; (try dsimp only at hSw); simp only [zqa, zqb, zqc, zqd, zqe]; go_simp <;> with_reducible rfl
     try simp only [Act.put, zqf, zqg, zqh]
     refine lPv 11 (some 90) (.func (.func 16) #[] #[]) (keep_of hH2) ?_
     try simp only [Act.put, zqf, zqg, zqh]
     refine lTk 12 (some 91) (v := ?_) ?_ hH2 ?_
     rotate_left
     ·intro w hSw; (try dsimp only at hSw); simp only [zqa, zqb, zqc, zqd, zqe]; go_simp <;> with_reducible rfl
     try simp only [Act.put, zqf, zqg, zqh]
     exact outof_G hG (Z9.out a1 c1 k1 a2 c2 k2 wr HN) (by kernel_rfl) (by rw [hA.out]; try kernel_rfl)
   ⟩
   have Z11 : Kept (∀ (a1 : Option Addr) (c1 : Nat) (k1 : Nat) (wq : World), Hid (Mem w7 wq [funR a1 c1 k1 dsL 0 (m : Int)]) → G 32 (bt 37 31) (a0.put (some 81) (.agg #[.slice a1 (m + 2) c1, .int .i64 ((m : Int) + 1)])) wq) := ⟨by
    intro a1 c1 k1 wq HC
    refine into_G hG ?_
    rw [hA.out]
    try simp only [Act.put, zqf, zqg, zqh]
    have hH := cS.is (w := wq) (⟨cell_below HC.out.below P50.out, cell_below HC.out.below P51.out, cell_below HC.out.below P90.out, cell_below HC.out.below P91.out⟩)
    refine lOne 5 (by kernel_rfl) ?_
    ·
     refine (LStep.op (fun K hK => ?_))
     go_simp
     refine (HFAf.out _ HC.out.below).mono ?_
     rintro e wr ⟨a2, c2, k2, rfl, mq⟩
     have HN := Tre.hid (HC.out.call mq)
     clear mq
     (try dsimp only)
     have HC := Tre.hid ((HN.out.front 0 rfl).front 1 rfl)
     clear HN
     refine hK.out _ _ ?_ (fun hH2 => ?_)
     ·exact ⟨cell_below HC.out.below P50.out, cell_below HC.out.below P51.out, cell_below HC.out.below P90.out, cell_below HC.out.below P91.out⟩
     exact outof_G hG (Z10.out a1 c1 k1 a2 c2 k2 wr HC) (by kernel_rfl) (by rw [hA.out]; try kernel_rfl)
   ⟩
   have Z12 : Kept (∀ (wq : World), Hid (Mem w7 wq []) → G 33 (bt 37 27) (a0) wq) := ⟨by
    intro  wq HC
    refine into_G hG ?_
    rw [hA.out]
    try simp only [Act.put, zqf, zqg, zqh]
    have hH := cS.is (w := wq) (⟨cell_below HC.out.below P50.out, cell_below HC.out.below P51.out, cell_below HC.out.below P90.out, cell_below HC.out.below P91.out⟩)
    refine lOne 2 (by kernel_rfl) ?_
    ·
     refine (LStep.op (fun K hK => ?_))
     go_simp
     refine (HFLf.out _ HC.out.below).mono ?_
     rintro e wr ⟨a1, c1, k1, rfl, mq⟩
     have HN := Tre.hid (HC.out.call mq)
     clear mq
     (try dsimp only)
     refine hK.out _ _ ?_ (fun hH2 => ?_)
     ·exact ⟨cell_below HN.out.below P50.out, cell_below HN.out.below P51.out, cell_below HN.out.below P90.out, cell_below HN.out.below P91.out⟩
     exact outof_G hG (Z11.out a1 c1 k1 wr HN) (by kernel_rfl) (by rw [hA.out]; try kernel_rfl)
   ⟩
   exact Z12.out  wq0 HC
  ⟩
  have Z1 : Kept (∀ (aL : Option Addr) (cL : Nat) (dL : List NodeV) (b9 : Nat) (wq : World), Hid (Mem w6 wq [cellsR b9 24 #[.slice none 0 0, .int .i64 0], nodesR (.slice aL dL.length cL) dL, kidsR dL, factR (dL.map NodeV.n = (A.lessG i).ns)]) → G 2 (bt 18 65535) (((((a0.put (some 58) (.tuple #[.agg #[.slice aL dL.length cL, .int .i64 0], .int .i64 0])).put (some 46) (.tuple #[.agg #[.slice aL dL.length cL, .int .i64 0], .int .i64 0])).put (some 59) (.agg #[.slice aL dL.length cL, .int .i64 0])).put (some 60) (.int .i64 0)).put (some 9) (.pointer (some ⟨b9, 0, none⟩))) wq) := ⟨by
   intro aL cL dL b9 wq HC
   refine into_G hG ?_
   rw [hA.out]
   try simp only [Act.put, zqf, zqg, zqh]
   have hH := cS.is (w := wq) (⟨cell_below HC.out.below P50.out, cell_below HC.out.below P51.out, cell_below HC.out.below P63.out, cell_below HC.out.below PS.out⟩)
   refine lOne 16 (by kernel_rfl) ?_
   ·
    refine (LFall.op (by kernel_rfl) (fun K hK => ?_))
    have z0 := HC.out.free 0 rfl 0
    have z1 := HC.out.free 0 rfl 1
    obtain ⟨y0, y1⟩ := HC.out.two 0 rfl
    have HN := Tre.hid ((HC.out.setCell 0 rfl 0 (.slice aL dL.length cL)).setCell 0 rfl 1 (.int .i64 0))
    go_simp
    clear z0 z1 y0 y1
    generalize hw : World.setCell _ ⟨b9, 1, none⟩ _ = wr at HN ⊢
    clear hw
    refine hK.out _ _ ?_
    refine lPv 17 (some 10) (.int .i64 0) (keep_fell (by kernel_rfl)) ?_
    exact outof_G hG (Z0.out aL cL dL b9 wr HN) (by kernel_rfl) (by rw [hA.out]; try kernel_rfl)
  ⟩
  have Z2 : Kept (∀ (aL : Option Addr) (cL : Nat) (dL : List NodeV) (wq : World), Hid (Mem w6 wq [nodesR (.slice aL dL.length cL) dL, kidsR dL, factR (dL.map NodeV.n = (A.lessG i).ns)]) → G 3 (bt 18 32767) ((((a0.put (some 58) (.tuple #[.agg #[.slice aL dL.length cL, .int .i64 0], .int .i64 0])).put (some 46) (.tuple #[.agg #[.slice aL dL.length cL, .int .i64 0], .int .i64 0])).put (some 59) (.agg #[.slice aL dL.length cL, .int .i64 0])).put (some 60) (.int .i64 0)) wq) := ⟨by
   intro aL cL dL wq HC
   refine into_G hG ?_
   rw [hA.out]
   have hH := cS.is (w := wq) (⟨cell_below HC.out.below P50.out, cell_below HC.out.below P51.out, cell_below HC.out.below P63.out, cell_below HC.out.below PS.out⟩)
   refine lOne 15 (by kernel_rfl) ?_
   ·
    have HN := Tre.hid (HC.out.allocR #[.slice none 0 0, .int .i64 0] 24)
    have hH2 := cS.is (w := (wq.alloc (.cells #[.slice none 0 0, .int .i64 0] 24))) (⟨cell_below HN.out.below P50.out, cell_below HN.out.below P51.out, cell_below HN.out.below P63.out, cell_below HN.out.below PS.out⟩)
    refine LStep.made (some 9) (.pointer (some ⟨wq.heap.size, 0, none⟩)) _ (by kernel_rfl) (by kernel_rfl) hH2 ?_
    exact outof_G hG (Z1.out aL cL dL wq.heap.size _ HN) (by kernel_rfl) (by rw [hA.out]; try kernel_rfl)
  ⟩
  have Z3 : Kept (∀ (b9 : Nat) (wq : World), Hid (Mem w6 wq [cellsR b9 24 #[.slice none 0 0, .int .i64 0]]) → G 6 (bt 18 34815) (a0.put (some 9) (.pointer (some ⟨b9, 0, none⟩))) wq) := ⟨by
   intro b9 wq HC
   refine into_G hG ?_
   rw [hA.out]
   try simp only [Act.put, zqf, zqg, zqh]
   have hH := cS.is (w := wq) (⟨cell_below HC.out.below P50.out, cell_below HC.out.below P51.out, cell_below HC.out.below P63.out, cell_below HC.out.below PS.out⟩)
   refine lOne 11 (by kernel_rfl) ?_
   ·
    refine (LStep.op (fun K hK => ?_))
    go_simp
    refine (HFG.out _ HC.out.below).mono ?_
    rintro e wr ⟨vL, dL, rfl, hdL, mq⟩
    have HN1 := HC.out.call mq
    obtain ⟨aL, cL, rfl, _⟩ := HN1.val 0 rfl
    have HN := Tre.hid (HN1.addFact hdL)
    clear mq HN1 hdL
    (try dsimp only)
    have HC := Tre.hid ((((HN.out.front 0 rfl).front 2 rfl).front 2 rfl).front 3 rfl)
    clear HN
    refine hK.out _ _ ?_ (fun hH2 => ?_)
    ·exact ⟨cell_below HC.out.below P50.out, cell_below HC.out.below P51.out, cell_below HC.out.below P63.out, cell_below HC.out.below PS.out⟩
    refine lPv 12 (some 46) (.tuple #[.agg #[.slice aL dL.length cL, .int .i64 0], .int .i64 0]) (keep_of hH2) ?_
    refine lPv 13 (some 59) (.agg #[.slice aL dL.length cL, .int .i64 0]) (keep_of hH2) ?_
    refine lPv 14 (some 60) (.int .i64 0) (keep_of hH2) ?_
    exact outof_G hG (Z1.out aL cL dL b9 wr HC) (by kernel_rfl) (by rw [hA.out]; try kernel_rfl)
  ⟩
  have Z4 : Kept (∀ (wq : World), Hid (Mem w6 wq []) → G 7 (bt 18 2047) (a0) wq) := ⟨by
   intro  wq HC
   refine into_G hG ?_
   rw [hA.out]
   try simp only [Act.put, zqf, zqg, zqh]
   have hH := cS.is (w := wq) (⟨cell_below HC.out.below P50.out, cell_below HC.out.below P51.out, cell_below HC.out.below P63.out, cell_below HC.out.below PS.out⟩)
   refine lTwo 11 15 (by kernel_rfl) ?_ ?_
   ·
    refine (LStep.op (fun K hK => ?_))
    go_simp
    refine (HFG.out _ HC.out.below).mono ?_
    rintro e wr ⟨vL, dL, rfl, hdL, mq⟩
    have HN1 := HC.out.call mq
    obtain ⟨aL, cL, rfl, _⟩ := HN1.val 0 rfl
    have HN := Tre.hid (HN1.addFact hdL)
    clear mq HN1 hdL
    (try dsimp only)
    have HC := Tre.hid (((HN.out.front 0 rfl).front 2 rfl).front 2 rfl)
    clear HN
    refine hK.out _ _ ?_ (fun hH2 => ?_)
    ·exact ⟨cell_below HC.out.below P50.out, cell_below HC.out.below P51.out, cell_below HC.out.below P63.out, cell_below HC.out.below PS.out⟩
    refine lPv 12 (some 46) (.tuple #[.agg #[.slice aL dL.length cL, .int .i64 0], .int .i64 0]) (keep_of hH2) ?_
    refine lPv 13 (some 59) (.agg #[.slice aL dL.length cL, .int .i64 0]) (keep_of hH2) ?_
    refine lPv 14 (some 60) (.int .i64 0) (keep_of hH2) ?_
    exact outof_G hG (Z2.out aL cL dL wr HC) (by kernel_rfl) (by rw [hA.out]; try kernel_rfl)
   ·
    have HN := Tre.hid (HC.out.allocR #[.slice none 0 0, .int .i64 0] 24)
    have hH2 := cS.is (w := (wq.alloc (.cells #[.slice none 0 0, .int .i64 0] 24))) (⟨cell_below HN.out.below P50.out, cell_below HN.out.below P51.out, cell_below HN.out.below P63.out, cell_below HN.out.below PS.out⟩)
    refine LStep.made (some 9) (.pointer (some ⟨wq.heap.size, 0, none⟩)) _ (by kernel_rfl) (by kernel_rfl) hH2 ?_
    exact outof_G hG (Z3.out wq.heap.size _ HN) (by kernel_rfl) (by rw [hA.out]; try kernel_rfl)
  ⟩
  exact Z4.out  wq0 HC
theorem forgetsLaw' (ag : Option Addr) (ca : Nat) (g : Tre.Graph) (l : Int) (w : World) (hg : NodesAt w ag g.ns) (wg : g.weight + 5 * g.ns.length + 4 ≤ 1048576) (wl : (Lit.int .u8 l).wf = true) (E : LexEnv w) :
  Calls Tryz.prog 6 #[.agg #[.slice ag g.ns.length ca, .int .i64 g.root], .int .u8 l] w fun e w' => e = .returned (.bool true) ∧ Below w.heap.size w w' := by
 have ha : 0 ≤ l ∧ l ≤ 255 := by simpa [Lit.wf, IntKind.min, IntKind.max, IntKind.signed, IntKind.bits] using wl
 obtain ⟨N, rfl⟩ := Int.eq_ofNat_of_zero_le ha.1
 exact forgetsLaw ag ca g N w hg wg (by omega) E
end Go.Proofs.YtoieknnnadgfpaaGreatDoor.gr
