/- inst.Close. Nodes whose arguments are their own, whose labels stand elsewhere; facts that are held beside resources. Rows cloned and an element deleted, in memory. sub.Forget: a type without a label. SubForgets$1: a function that takes a type, or gives it. -/
import Derived.Test.YtoieknnnadgfpaaGreatDoorB07
import Derived.Test.YtoieknnnadgfpaaGreatDoorB31
import Derived.Test.YtoieknnnadgfpaaGreatDoorB36
import Derived.Test.YtoieknnnadgfpaaGreatDoorB09
import Derived.Test.YtoieknnnadgfpaaGreatDoorB03
import Derived.IntWalk
import Derived.Test.YtoieknnnadgfpaaGreatDoorB12
import Derived.Test.YtoieknnnadgfpaaGreatDoorB10
import Derived.Lib.OwnBridge
set_option linter.unusedVariables false
namespace Go.Tre
theorem closeN_weight (x : Tre.Node) : (closeN x).weight ≤ x.weight + 4 := by
 unfold closeN
 split
 ·unfold Node.weight
  have h : unitB.size = 4 := rfl
  simp only [h, List.length_nil, List.map_nil, List.sum_nil]
  omega
 ·exact Nat.le_add_right x.weight 4
theorem shut_weight (g : Tre.Graph) : g.shutG.weight ≤ g.weight + 4 * g.ns.length := by
 have key : ∀ l : List Tre.Node, ((l.map closeN).map Node.weight).sum ≤ (l.map Node.weight).sum + 4 * l.length := fun l => by
  induction l with
  | nil => simp
  | cons x l ih => have := closeN_weight x; simp only [List.map_cons, List.sum_cons, List.length_cons]; omega
 exact key g.ns
theorem closeG_weight (g : Tre.Graph) : g.closeG.weight ≤ g.weight + 4 * g.ns.length := Nat.le_trans (Graph.trim_weight _) (shut_weight g)
end Go.Tre
namespace Go.Proofs.YtoieknnnadgfpaaGreatDoor.gr
open Go.RowKit Go.Shelf Go.Maps Go.Tre lex
def closeV (d : NodeV) : NodeV := if d.n.kind = 1 then ⟨⟨2, unitB, [], [], false⟩, .slice none 0 0, .slice none 0 0⟩ else ⟨{ d.n with isOpen := false }, d.va, d.vl⟩
theorem closeV_n (d : NodeV) : (closeV d).n = closeN d.n := by unfold closeV closeN; split <;> rfl
theorem closeV_val {w : World} {d : NodeV} (h : NodeVal w d) : NodeVal w (closeV d) := by
 unfold closeV
 split
 ·exact ⟨none, 0, none, 0, rfl, rfl, row_none w 1, row_none w 1, Nat.le_refl _, Nat.le_refl _⟩
 ·exact h
theorem cells_five (ds : List NodeV) (i : Nat) (d d' : NodeV) (hd : ds[i]? = some d) :
  (((((ds.flatMap NodeV.cells).set (i * 5) (.int .i64 d'.n.kind)).set (i * 5 + 1) (.string d'.n.name)).set (i * 5 + 2) d'.va).set (i * 5 + 3) d'.vl).set (i * 5 + 4) (.bool d'.n.isOpen) = (ds.set i d').flatMap NodeV.cells := by
 have hi := (List.getElem?_eq_some_iff.1 hd).1
 have at_ : ∀ x : NodeV, (ds.set i x)[i]? = some x := fun x => by rw [List.getElem?_set, if_pos rfl, if_pos hi]
 have e0 := cells_set ds i 0 d ⟨⟨d'.n.kind, d.n.name, d.n.args, d.n.labels, d.n.isOpen⟩, d.va, d.vl⟩ (.int .i64 d'.n.kind) hd (by omega) rfl
 rw [Nat.add_zero] at e0
 have e1 := cells_set (ds.set i ⟨⟨d'.n.kind, d.n.name, d.n.args, d.n.labels, d.n.isOpen⟩, d.va, d.vl⟩) i 1 ⟨⟨d'.n.kind, d.n.name, d.n.args, d.n.labels, d.n.isOpen⟩, d.va, d.vl⟩ ⟨⟨d'.n.kind, d'.n.name, d.n.args, d.n.labels, d.n.isOpen⟩, d.va, d.vl⟩ (.string d'.n.name) (at_ _) (by omega) rfl
 rw [List.set_set] at e1
 have e2 := cells_set (ds.set i ⟨⟨d'.n.kind, d'.n.name, d.n.args, d.n.labels, d.n.isOpen⟩, d.va, d.vl⟩) i 2 ⟨⟨d'.n.kind, d'.n.name, d.n.args, d.n.labels, d.n.isOpen⟩, d.va, d.vl⟩ ⟨⟨d'.n.kind, d'.n.name, d.n.args, d.n.labels, d.n.isOpen⟩, d'.va, d.vl⟩ d'.va (at_ _) (by omega) rfl
 rw [List.set_set] at e2
 have e3 := cells_set (ds.set i ⟨⟨d'.n.kind, d'.n.name, d.n.args, d.n.labels, d.n.isOpen⟩, d'.va, d.vl⟩) i 3 ⟨⟨d'.n.kind, d'.n.name, d.n.args, d.n.labels, d.n.isOpen⟩, d'.va, d.vl⟩ ⟨⟨d'.n.kind, d'.n.name, d.n.args, d.n.labels, d.n.isOpen⟩, d'.va, d'.vl⟩ d'.vl (at_ _) (by omega) rfl
 rw [List.set_set] at e3
 have e4 := cells_set (ds.set i ⟨⟨d'.n.kind, d'.n.name, d.n.args, d.n.labels, d.n.isOpen⟩, d'.va, d'.vl⟩) i 4 ⟨⟨d'.n.kind, d'.n.name, d.n.args, d.n.labels, d.n.isOpen⟩, d'.va, d'.vl⟩ d' (.bool d'.n.isOpen) (at_ _) (by omega) rfl
 rw [List.set_set] at e4
 rw [e0, e1, e2, e3, e4]
theorem nodes_val {w0 w : World} {v : Value} {ds : List NodeV} {rs : List Res} {n : Nat} (hn : ds.length = n) (h : Mem w0 w (nodesR v ds :: rs)) : ∃ a c, v = .slice a n c ∧ n ≤ c := by
 subst hn
 exact h.val 0 rfl
theorem eqNilNodes (b o n c : Nat) (w : World) : (binOp .eql 22 (.slice (some ⟨b, o, none⟩) n c) (.slice none 0 0)).run Tryz.prog w = .ok (.bool false) w := by kernel_rfl
set_option maxRecDepth 100000 in
theorem cloneNodes (b1 o1 c n : Nat) (ds : List NodeV) (w : World) (hn : ds.length = n) (hc : ∀ j u, (ds.flatMap NodeV.cells)[j]? = some u → w.cell? ⟨b1, o1 + j, none⟩ = some u) (h1 : ∀ u ∈ ds.flatMap NodeV.cells, u.oneCell' = true) (hl : n ≤ 8388608) :
  Calls Tryz.prog 24 #[.slice (some ⟨b1, o1, none⟩) n c] w fun e w' => ∃ v, e = .returned v ∧ Mem w w' [nodesR v ds] := by
 obtain ⟨ni, I1, I2, I3, I4⟩ := info_parts infoN
 have J1 := Tre.hid I1
 have J2 := Tre.hid I2
 have J3 := Tre.hid I3
 have J4 := Tre.hid I4
 have M0 := (Mem.nil w).allocRow #[] 33 5 0 (by unfold maxLen; omega) rfl
 have HM0 := Tre.hid M0
 have HR : Hid (Row (w.alloc (.cells #[] 33)) 5 (some ⟨b1, o1, none⟩) n (ds.flatMap NodeV.cells)) := ⟨by rw [cells_len, hn], fun j u hu => ⟨b1, o1, rfl, cell_below M0.below (hc j u hu)⟩⟩
 have H1 := Tre.hid h1
 have HN := Tre.hid hn
 clear I1 I2 I3 I4 hc h1 hn M0
 have heq := eqNilNodes
 go_enter Tryz.func24, Tryz.ntmps24
 go_wp2_with (at_builtin; refine wpList_append_row _ rfl _ _ 22 rfl 33 ni _ 5 80 Tryz.underlying22 J1.out J2.out J3.out J4.out rfl (by omega) (.slice (some ⟨w.heap.size, 0, none⟩) 0 0) 0 [] rfl (HM0.out.row 0 rfl) (some ⟨b1, o1, none⟩) n c (ds.flatMap NodeV.cells) rfl HR.out H1.out (by unfold maxLen; omega) (by omega) ?_; intro v' w9 hown4 hgrow4 hat4; simp only [Nat.zero_add, List.nil_append] at hown4; have HM4 := Tre.hid (HM0.out.grow 0 rfl hgrow4 hown4 hat4); clear hown4 hgrow4 hat4)
 go_ret
 refine ⟨_, rfl, ?_⟩
 unfold nodesR
 rw [HN.out]
 exact HM4.out
set_option maxRecDepth 100000 in
set_option maxHeartbeats 16000000 in
theorem close_any (a : Option Addr) (ca : Nat) (g : Tre.Graph) (w : World) (hg : NodesAt w a g.ns) (wg : g.weight + 4 * g.ns.length ≤ 2097152) (hm : MaxAt w) (c0 : g.checkC = 0) :
  Calls Tryz.prog 11 #[.agg #[.slice a g.ns.length ca, .int .i64 g.root]] w fun e w' =>
   ∃ v ds, e = .returned (.agg #[v, .int .i64 0]) ∧ ds.map NodeV.n = g.closeG.ns ∧ Mem w w' [nodesR v ds, kidsR ds] := by
 have og := Graph.ok_of c0
 obtain ⟨r, hr⟩ : ∃ r : Nat, g.root = (r : Int) := ⟨g.root.toNat, by have := og.root0; omega⟩
 have h0 : 0 < g.ns.length := by have h1 := og.root0; have h2 := og.root1; omega
 obtain ⟨b1, o1, rfl, hx0⟩ := hg.at_ 0 g.ns[0] (List.getElem?_eq_getElem h0)
 clear hx0
 obtain ⟨ds, hds, hcs, hvs⟩ := nodes_vals hg
 obtain ⟨n, hn⟩ : ∃ n : Nat, g.ns.length = n := ⟨_, rfl⟩
 have M := ((Mem.nil w).allocR #[.slice (some ⟨b1, o1, none⟩) n ca, .int .i64 (r : Int)] 24).allocR #[.slice none 0 0, .int .i64 0] 24
 simp only [heapSize_alloc] at M
 have CK := check_any (some ⟨b1, o1, none⟩) ca g _ (hg.below M.below) (by omega) (hm.below M.below)
 rw [c0, hn, hr] at CK
 have HCK := Tre.hid CK
 have HX := Tre.hid hm
 have HLN : Hid (ds.length = n) := by show _ = _; rw [← hn, ← hds, List.length_map]
 have HDS := Tre.hid hds
 have HVS := Tre.hid hvs
 have HRR := Tre.hid hr
 have HGN := Tre.hid hn
 have hnl : n ≤ 2097152 := by omega
 have HWG := Tre.hid wg
 have HCL : Hid (∀ W, Below w.heap.size w W → Calls Tryz.prog 24 #[.slice (some ⟨b1, o1, none⟩) n ca] W fun e w' => ∃ v, e = .returned v ∧ Mem W w' [nodesR v ds]) := fun W hW =>
  cloneNodes b1 o1 ca n ds W HLN.out (fun j u hu => cell_below hW (hcs j u hu)) (cells_one ds (fun d hd => ⟨w, hvs d hd⟩)) (by omega)
 rw [hn, hr]
 have HM0 := Tre.hid M
 clear hg hm c0 og hr h0 hds hcs hvs hn CK M wg
 go_enter Tryz.func11, Tryz.ntmps11
 go_wp2_with fail
 refine HCK.out.mono ?_
 rintro e w1 ⟨rfl, bq⟩
 have HM1 := Tre.hid (HM0.out.quiet bq)
 clear bq HCK HM0
 go_upto_region 3 with fail
 have cS : Cond (fun w' => w'.cell? ⟨w.heap.size, 0, none⟩ = some (.slice (some ⟨b1, o1, none⟩) n ca) ∧ w'.cell? ⟨w.heap.size, 1, none⟩ = some (.int .i64 (r : Int))) := ⟨⟩
 refine cS.keep [7] ?_ (fun hH => ?_)
 ·exact ⟨HM1.out.drew.cell 1 rfl 0 rfl, HM1.out.drew.cell 1 rfl 1 rfl⟩
 have HC := Tre.hid HM1.out.drew
 generalize hq : World.drew _ = wq0 at HC hH ⊢
 clear hq
 refine lPv 0 (some 10) (.pointer (some ⟨w.heap.size, 1, none⟩)) (keep_of hH) ?_
 try simp only [Act.put, zqf, zqg, zqh]
 refine lTk 1 (some 11) (v := ?_) ?_ hH ?_
 rotate_left
 ·intro w hSw; (try dsimp only at hSw); simp only [zqa, zqb, zqc, zqd, zqe]; go_simp <;> with_reducible rfl
 try simp only [Act.put, zqf, zqg, zqh]
 refine lPv 2 (some 12) (.pointer (some ⟨w.heap.size, 0, none⟩)) (keep_of hH) ?_
 try simp only [Act.put, zqf, zqg, zqh]
 refine lTk 3 (some 13) (v := ?_) ?_ hH ?_
 rotate_left
 ·intro w hSw; (try dsimp only at hSw); simp only [zqa, zqb, zqc, zqd, zqe]; go_simp <;> with_reducible rfl
 try simp only [Act.put, zqf, zqg, zqh]
 try simp only [Act.put, zqf, zqg, zqh]
 refine with_G (G0 := wpAnyL _ _ _ _ _ _) ?_
 intro G hG a0 hA
 have Z0 : Kept (∀ (aN : Option Addr) (cN : Nat) (b3 : Nat) (wq : World), Hid (Mem w wq [cellsR b3 24 #[.slice aN n cN, .int .i64 (r : Int)], nodesR (.slice aN n cN) ds, cellsR (w.heap.size + 1) 24 #[.slice none 0 0, .int .i64 0], cellsR w.heap.size 24 #[.slice (some ⟨b1, o1, none⟩) n ca, .int .i64 (r : Int)]]) → G 0 (bt 8 255) (((a0.put (some 14) (.slice aN n cN)).put (some 15) (.agg #[.slice aN n cN, .int .i64 (r : Int)])).put (some 3) (.pointer (some ⟨b3, 0, none⟩))) wq) := ⟨by
  intro aN cN b3 wq HC
  refine into_G hG ?_
  rw [hA.out]
  try simp only [Act.put, zqf, zqg, zqh]
  refine lDone (by kernel_rfl) ?_
  clear hA hG
  have HQ := HC
  clear HC
  obtain ⟨g0, g1⟩ := HQ.out.two 0 rfl
  have HL0 : Hid (Mem w wq [nodesR (.slice aN n cN) (((ds.take 0).map closeV) ++ ds.drop 0), cellsR b3 24 #[.slice aN n cN, .int .i64 (r : Int)], cellsR (w.heap.size + 1) 24 #[.slice none 0 0, .int .i64 0]]) := ((HQ.out.del 3).front 1 rfl)
  go_wp2_with fail
  clear g0 g1 HQ
  go_loopw [19] (fun v19 wr => ∃ i : Nat, i ≤ n ∧ v19 = .int .i64 (i : Int) ∧ Hid (Mem w wr [nodesR (.slice aN n cN) (((ds.take i).map closeV) ++ ds.drop i), cellsR b3 24 #[.slice aN n cN, .int .i64 (r : Int)], cellsR (w.heap.size + 1) 24 #[.slice none 0 0, .int .i64 0]]))
   (fun v19 _ => n - (intOf v19).toNat)
  case atStart => exact ⟨0, Nat.zero_le _, rfl, HL0.out⟩
  case round =>
   obtain ⟨i, hi, rfl, HI⟩ := hrel
   by_cases hlt : i < n
   ·obtain ⟨d, hd⟩ : ∃ d, Hid (ds[i]? = some d) := ⟨_, List.getElem?_eq_getElem (by rw [HLN.out]; exact hlt)⟩
    have HSP : Hid (((ds.take i).map closeV) ++ ds.drop i = ((ds.take i).map closeV) ++ d :: ds.drop (i + 1)) := by
     show _ = _
     rw [List.drop_eq_getElem_cons (by rw [HLN.out]; exact hlt)]
     have := hd.out
     rw [List.getElem?_eq_getElem (by rw [HLN.out]; exact hlt)] at this
     rw [Option.some.inj this]
    have HTK : Hid (((ds.take (i + 1)).map closeV) ++ ds.drop (i + 1) = (((ds.take i).map closeV) ++ ds.drop i).set i (closeV d)) := by
     show _ = _
     rw [HSP.out, List.take_add_one, hd.out, List.map_append]
     have hl : ((ds.take i).map closeV).length = i := by rw [List.length_map, List.length_take, HLN.out]; omega
     rw [List.set_append_right _ _ (by omega), hl, Nat.sub_self]
     simp
    generalize hL : ((ds.take i).map closeV) ++ ds.drop i = L at *
    have HLL : Hid (L.length = n) := by
     show _ = _
     rw [← hL, List.length_append, List.length_map, List.length_take, List.length_drop, HLN.out]; omega
    have HLD : Hid (L[i]? = some d) := by
     show _ = _
     rw [HSP.out, List.getElem?_append_right (by rw [List.length_map, List.length_take]; omega), List.length_map, List.length_take, HLN.out, Nat.min_eq_left (by omega), Nat.sub_self]; rfl
    have HHD := HI
    have HI : Hid (Mem w wr [rowR 33 5 (.slice aN n cN) n (L.flatMap NodeV.cells), cellsR b3 24 #[.slice aN n cN, .int .i64 (r : Int)], cellsR (w.heap.size + 1) 24 #[.slice none 0 0, .int .i64 0]]) := by
     have h := HHD.out
     unfold nodesR at h
     rw [HLL.out] at h
     exact h
    clear hL HHD HSP
    obtain ⟨gN, rfl, _, _, x0⟩ := HI.out.getRow 0 rfl (i * 5) (by have := cells_at L i 0 d HLD.out (by omega); rw [Nat.add_zero] at this; exact this.trans rfl)
    have x1 := HI.out.cellAt 0 rfl (i * 5 + 1) ((cells_at L i 1 d HLD.out (by omega)).trans rfl)
    have x2 := HI.out.cellAt 0 rfl (i * 5 + 2) ((cells_at L i 2 d HLD.out (by omega)).trans rfl)
    have x3 := HI.out.cellAt 0 rfl (i * 5 + 3) ((cells_at L i 3 d HLD.out (by omega)).trans rfl)
    have x4 := HI.out.cellAt 0 rfl (i * 5 + 4) ((cells_at L i 4 d HLD.out (by omega)).trans rfl)
    have f0 := HI.out.freeAt 0 rfl (i * 5)
    have f1 := HI.out.freeAt 0 rfl (i * 5 + 1)
    have f2 := HI.out.freeAt 0 rfl (i * 5 + 2)
    have f3 := HI.out.freeAt 0 rfl (i * 5 + 3)
    have f4 := HI.out.freeAt 0 rfl (i * 5 + 4)
    obtain ⟨g0, g1⟩ := HI.out.two 1 rfl
    have i1 : (0 : Int) ≤ (i : Int) := by omega
    have i2 : (i : Int) < (n : Int) := by omega
    by_cases hk : d.n.kind = 1
    ·have e1 : (d.n.kind == 1) = true := by simp [hk]
     have HCV : Hid (closeV d = ⟨⟨2, unitB, [], [], false⟩, .slice none 0 0, .slice none 0 0⟩) := by show _ = _; unfold closeV; rw [if_pos hk]
     clear hk
     go_upto_region 10 with fail
     clear g0 g1
     have M5 := ((((HI.out.setRow 0 rfl (i * 5) (.int .i64 2)).setRow 0 rfl (i * 5 + 1) (.string unitB)).setRow 0 rfl (i * 5 + 2) (.slice none 0 0)).setRow 0 rfl (i * 5 + 3) (.slice none 0 0)).setRow 0 rfl (i * 5 + 4) (.bool false)
     have hrow := cells_five L i d ⟨⟨2, unitB, [], [], false⟩, .slice none 0 0, .slice none 0 0⟩ HLD.out
     have HM5 : Hid (Mem w (((((wr.setCell ⟨gN, i * 5, none⟩ (.int .i64 2)).setCell ⟨gN, i * 5 + 1, none⟩ (.string ⟨#[117, 110, 105, 116]⟩)).setCell ⟨gN, i * 5 + 2, none⟩ (.slice none 0 0)).setCell ⟨gN, i * 5 + 3, none⟩ (.slice none 0 0)).setCell ⟨gN, i * 5 + 4, none⟩ (.bool false)) [rowR 33 5 (.slice (some ⟨gN, 0, none⟩) n cN) n ((L.set i (closeV d)).flatMap NodeV.cells), cellsR b3 24 #[.slice (some ⟨gN, 0, none⟩) n cN, .int .i64 (r : Int)], cellsR (w.heap.size + 1) 24 #[.slice none 0 0, .int .i64 0]]) := by
      show Mem _ _ _
      rw [HCV.out, ← hrow]
      exact M5
     clear M5 hrow
     go_upto_region 11 with fail
     generalize hw : ((((wr.setCell ⟨gN, i * 5, none⟩ (.int .i64 2)).setCell ⟨gN, i * 5 + 1, none⟩ (.string ⟨#[117, 110, 105, 116]⟩)).setCell ⟨gN, i * 5 + 2, none⟩ (.slice none 0 0)).setCell ⟨gN, i * 5 + 3, none⟩ (.slice none 0 0)).setCell ⟨gN, i * 5 + 4, none⟩ (.bool false) = w5 at *
     clear hw x0 x1 x2 x3 x4 f0 f1 f2 f3 f4
     have hset : (L.set i (closeV d))[i]? = some (closeV d) := by rw [List.getElem?_set, if_pos rfl, if_pos (by rw [HLL.out]; exact hlt)]
     have x4 : w5.cell? ⟨gN, i * 5 + 4, none⟩ = some (.bool false) := HM5.out.cellAt 0 rfl (i * 5 + 4) ((cells_at _ i 4 _ hset (by omega)).trans (by rw [HCV.out]; rfl))
     have f4 := HM5.out.freeAt 0 rfl (i * 5 + 4)
     have M6 := HM5.out.setRow 0 rfl (i * 5 + 4) (.bool false)
     have hrow := cells_set (L.set i (closeV d)) i 4 (closeV d) (closeV d) (.bool false) hset (by omega) (by rw [HCV.out]; rfl)
     rw [List.set_set] at hrow
     have HM6 : Hid (Mem w (w5.setCell ⟨gN, i * 5 + 4, none⟩ (.bool false)) [rowR 33 5 (.slice (some ⟨gN, 0, none⟩) n cN) n ((L.set i (closeV d)).flatMap NodeV.cells), cellsR b3 24 #[.slice (some ⟨gN, 0, none⟩) n cN, .int .i64 (r : Int)], cellsR (w.heap.size + 1) 24 #[.slice none 0 0, .int .i64 0]]) := by
      show Mem _ _ _
      rw [← hrow]
      exact M6
     clear M6 hrow hset
     go_wp2_with fail
     go_roundw
     case rel =>
      refine ⟨i + 1, by omega, by go_num, ?_⟩
      show Mem _ _ _
      rw [HTK.out]
      unfold nodesR
      rw [List.length_set, HLL.out]
      exact HM6.out
     case measure => simp [intOf]; omega
    ·have e1 : (d.n.kind == 1) = false := by simp [hk]
     have HCV : Hid (closeV d = ⟨{ d.n with isOpen := false }, d.va, d.vl⟩) := by show _ = _; unfold closeV; rw [if_neg hk]
     clear hk
     have M5 := HI.out.setRow 0 rfl (i * 5 + 4) (.bool false)
     have hrow := cells_set L i 4 d ⟨{ d.n with isOpen := false }, d.va, d.vl⟩ (.bool false) HLD.out (by omega) rfl
     have HM5 : Hid (Mem w (wr.setCell ⟨gN, i * 5 + 4, none⟩ (.bool false)) [rowR 33 5 (.slice (some ⟨gN, 0, none⟩) n cN) n ((L.set i (closeV d)).flatMap NodeV.cells), cellsR b3 24 #[.slice (some ⟨gN, 0, none⟩) n cN, .int .i64 (r : Int)], cellsR (w.heap.size + 1) 24 #[.slice none 0 0, .int .i64 0]]) := by
      show Mem _ _ _
      rw [HCV.out, ← hrow]
      exact M5
     clear M5 hrow
     go_wp2_with fail
     go_roundw
     case rel =>
      refine ⟨i + 1, by omega, by go_num, ?_⟩
      show Mem _ _ _
      rw [HTK.out]
      unfold nodesR
      rw [List.length_set, HLL.out]
      exact HM5.out
     case measure => simp [intOf]; omega
   ·have e : i = n := by omega
    subst e
    have HL : Hid (Mem w wr [nodesR (.slice aN i cN) (ds.map closeV), cellsR b3 24 #[.slice aN i cN, .int .i64 (r : Int)], cellsR (w.heap.size + 1) 24 #[.slice none 0 0, .int .i64 0]]) := by
     have h := HI.out
     rw [List.take_of_length_le (by rw [HLN.out]; exact Nat.le_refl _), List.drop_of_length_le (by rw [HLN.out]; exact Nat.le_refl _), List.append_nil] at h
     exact h
    have hlm : (ds.map closeV).length = i := by rw [List.length_map, HLN.out]
    have hns : (ds.map closeV).map NodeV.n = g.shutG.ns := by
     show _ = g.ns.map closeN
     rw [← HDS.out, List.map_map, List.map_map]
     exact List.map_congr_left (fun d _ => closeV_n d)
    have NA := nodesAt_of (a := aN) (c := cN) (ds := ds.map closeV) (by rw [hlm]; exact HL.out.at_ 0 rfl) (fun d hd => by
     obtain ⟨d0, h0, rfl⟩ := List.mem_map.1 hd
     exact (closeV_val (HVS.out d0 h0)).below HL.out.below)
    rw [hns] at NA
    have KT := trim_any aN cN g.shutG wr NA (Nat.le_trans (shut_weight g) HWG.out) (HX.out.below HL.out.below)
    rw [shut_len, HGN.out, show g.shutG.root = g.root from rfl, HRR.out] at KT
    have HKT := Tre.hid KT
    obtain ⟨g0, g1⟩ := HL.out.two 1 rfl
    clear hlm hns NA KT HI
    go_wp2_with fail
    refine HKT.out.mono ?_
    rintro e w7 ⟨v, dt, rfl, hdt, mq⟩
    have HDT := Tre.hid hdt
    have HM := Tre.hid (HL.out.call mq)
    obtain ⟨aT, cT, rfl, _⟩ := HM.out.val 0 rfl
    clear mq hdt HKT g0 g1
    have q0 : w7.cell? ⟨w.heap.size + 1, 0, none⟩ = some (.slice none 0 0) := HM.out.cell 4 rfl 0 rfl
    have q1 : w7.cell? ⟨w.heap.size + 1, 1, none⟩ = some (.int .i64 0) := HM.out.cell 4 rfl 1 rfl
    have q0f := HM.out.free 4 rfl 0
    have q1f := HM.out.free 4 rfl 1
    have HM6 := Tre.hid ((HM.out.setCell 4 rfl 0 (.slice aT dt.length cT)).setCell 4 rfl 1 (.int .i64 0))
    go_wp2_with fail
    have z0 : ((w7.setCell ⟨w.heap.size + 1, 0, none⟩ (.slice aT dt.length cT)).setCell ⟨w.heap.size + 1, 1, none⟩ (.int .i64 0)).cell? ⟨w.heap.size + 1, 0, none⟩ = some (.slice aT dt.length cT) := HM6.out.cell 4 rfl 0 rfl
    have z1 : ((w7.setCell ⟨w.heap.size + 1, 0, none⟩ (.slice aT dt.length cT)).setCell ⟨w.heap.size + 1, 1, none⟩ (.int .i64 0)).cell? ⟨w.heap.size + 1, 1, none⟩ = some (.int .i64 0) := HM6.out.cell 4 rfl 1 rfl
    refine bodyPost_ret (v := .agg #[.slice aT dt.length cT, .int .i64 0]) (by simp [results, Tryz.results11, go_sem, z0, z1]) rfl ⟨_, dt, rfl, HDT.out, HM6.out.sub (by simp)⟩
 ⟩
 have Z1 : Kept (∀ (aN : Option Addr) (cN : Nat) (b3 : Nat) (wq : World), Hid (Mem w wq [cellsR b3 24 #[.slice none 0 0, .int .i64 0], nodesR (.slice aN n cN) ds, cellsR (w.heap.size + 1) 24 #[.slice none 0 0, .int .i64 0], cellsR w.heap.size 24 #[.slice (some ⟨b1, o1, none⟩) n ca, .int .i64 (r : Int)]]) → G 1 (bt 8 127) (((a0.put (some 14) (.slice aN n cN)).put (some 15) (.agg #[.slice aN n cN, .int .i64 (r : Int)])).put (some 3) (.pointer (some ⟨b3, 0, none⟩))) wq) := ⟨by
  intro aN cN b3 wq HC
  refine into_G hG ?_
  rw [hA.out]
  try simp only [Act.put, zqf, zqg, zqh]
  have hH := cS.is (w := wq) (⟨HC.out.cell 3 rfl 0 rfl, HC.out.cell 3 rfl 1 rfl⟩)
  refine lOne 7 (by kernel_rfl) ?_
  ·
   refine (LFall.op (by kernel_rfl) (fun K hK => ?_))
   have z0 := HC.out.free 0 rfl 0
   have z1 := HC.out.free 0 rfl 1
   obtain ⟨y0, y1⟩ := HC.out.two 0 rfl
   have HN := Tre.hid ((HC.out.setCell 0 rfl 0 (.slice aN n cN)).setCell 0 rfl 1 (.int .i64 (r : Int)))
   go_simp
   clear z0 z1 y0 y1
   generalize hw : World.setCell _ ⟨b3, 1, none⟩ _ = wr at HN ⊢
   clear hw
   refine hK.out _ _ ?_
   exact outof_G hG (Z0.out aN cN b3 wr HN) (by kernel_rfl) (by rw [hA.out]; try kernel_rfl)
 ⟩
 have Z2 : Kept (∀ (aN : Option Addr) (cN : Nat) (wq : World), Hid (Mem w wq [nodesR (.slice aN n cN) ds, cellsR (w.heap.size + 1) 24 #[.slice none 0 0, .int .i64 0], cellsR w.heap.size 24 #[.slice (some ⟨b1, o1, none⟩) n ca, .int .i64 (r : Int)]]) → G 2 (bt 8 63) ((a0.put (some 14) (.slice aN n cN)).put (some 15) (.agg #[.slice aN n cN, .int .i64 (r : Int)])) wq) := ⟨by
  intro aN cN wq HC
  refine into_G hG ?_
  rw [hA.out]
  have hH := cS.is (w := wq) (⟨HC.out.cell 2 rfl 0 rfl, HC.out.cell 2 rfl 1 rfl⟩)
  refine lOne 6 (by kernel_rfl) ?_
  ·
   have HN := Tre.hid (HC.out.allocR #[.slice none 0 0, .int .i64 0] 24)
   have hH2 := cS.is (w := (wq.alloc (.cells #[.slice none 0 0, .int .i64 0] 24))) (⟨HN.out.cell 3 rfl 0 rfl, HN.out.cell 3 rfl 1 rfl⟩)
   refine LStep.made (some 3) (.pointer (some ⟨wq.heap.size, 0, none⟩)) _ (by kernel_rfl) (by kernel_rfl) hH2 ?_
   exact outof_G hG (Z1.out aN cN wq.heap.size _ HN) (by kernel_rfl) (by rw [hA.out]; try kernel_rfl)
 ⟩
 have Z3 : Kept (∀ (b3 : Nat) (wq : World), Hid (Mem w wq [cellsR b3 24 #[.slice none 0 0, .int .i64 0], cellsR (w.heap.size + 1) 24 #[.slice none 0 0, .int .i64 0], cellsR w.heap.size 24 #[.slice (some ⟨b1, o1, none⟩) n ca, .int .i64 (r : Int)]]) → G 3 (bt 8 79) (a0.put (some 3) (.pointer (some ⟨b3, 0, none⟩))) wq) := ⟨by
  intro b3 wq HC
  refine into_G hG ?_
  rw [hA.out]
  try simp only [Act.put, zqf, zqg, zqh]
  have hH := cS.is (w := wq) (⟨HC.out.cell 2 rfl 0 rfl, HC.out.cell 2 rfl 1 rfl⟩)
  refine lOne 4 (by kernel_rfl) ?_
  ·
   refine (LStep.op (fun K hK => ?_))
   go_simp
   refine (HCL.out _ HC.out.below).mono ?_
   rintro e wr ⟨vN, rfl, mq⟩
   have HN1 := Tre.hid (HC.out.call mq)
   obtain ⟨aN, cN, rfl, _⟩ := nodes_val HLN.out HN1.out
   have HN := HN1
   clear mq HN1
   (try dsimp only)
   have HC := Tre.hid ((HN.out.front 0 rfl).front 1 rfl)
   clear HN
   refine hK.out _ _ ?_ (fun hH2 => ?_)
   ·exact ⟨HC.out.cell 3 rfl 0 rfl, HC.out.cell 3 rfl 1 rfl⟩
   refine lPv 5 (some 15) (.agg #[.slice aN n cN, .int .i64 (r : Int)]) (keep_of hH2) ?_
   exact outof_G hG (Z1.out aN cN b3 wr HC) (by kernel_rfl) (by rw [hA.out]; try kernel_rfl)
 ⟩
 have Z4 : Kept (∀ (wq : World), Hid (Mem w wq [cellsR (w.heap.size + 1) 24 #[.slice none 0 0, .int .i64 0], cellsR w.heap.size 24 #[.slice (some ⟨b1, o1, none⟩) n ca, .int .i64 (r : Int)]]) → G 4 (bt 8 15) (a0) wq) := ⟨by
  intro  wq HC
  refine into_G hG ?_
  rw [hA.out]
  try simp only [Act.put, zqf, zqg, zqh]
  have hH := cS.is (w := wq) (⟨HC.out.cell 1 rfl 0 rfl, HC.out.cell 1 rfl 1 rfl⟩)
  refine lTwo 4 6 (by kernel_rfl) ?_ ?_
  ·
   refine (LStep.op (fun K hK => ?_))
   go_simp
   refine (HCL.out _ HC.out.below).mono ?_
   rintro e wr ⟨vN, rfl, mq⟩
   have HN1 := Tre.hid (HC.out.call mq)
   obtain ⟨aN, cN, rfl, _⟩ := nodes_val HLN.out HN1.out
   have HN := HN1
   clear mq HN1
   (try dsimp only)
   refine hK.out _ _ ?_ (fun hH2 => ?_)
   ·exact ⟨HN.out.cell 2 rfl 0 rfl, HN.out.cell 2 rfl 1 rfl⟩
   refine lPv 5 (some 15) (.agg #[.slice aN n cN, .int .i64 (r : Int)]) (keep_of hH2) ?_
   exact outof_G hG (Z2.out aN cN wr HN) (by kernel_rfl) (by rw [hA.out]; try kernel_rfl)
  ·
   have HN := Tre.hid (HC.out.allocR #[.slice none 0 0, .int .i64 0] 24)
   have hH2 := cS.is (w := (wq.alloc (.cells #[.slice none 0 0, .int .i64 0] 24))) (⟨HN.out.cell 2 rfl 0 rfl, HN.out.cell 2 rfl 1 rfl⟩)
   refine LStep.made (some 3) (.pointer (some ⟨wq.heap.size, 0, none⟩)) _ (by kernel_rfl) (by kernel_rfl) hH2 ?_
   exact outof_G hG (Z3.out wq.heap.size _ HN) (by kernel_rfl) (by rw [hA.out]; try kernel_rfl)
 ⟩
 exact Z4.out  wq0 HC
end Go.Proofs.YtoieknnnadgfpaaGreatDoor.gr
namespace Go.Proofs.YtoieknnnadgfpaaGreatDoor.gr
open Go.RowKit Go.Shelf Go.Maps Go.Tre lex
def argsR (ds : List NodeV) : Res := manyR (ds.map fun d => rowR 3 1 d.va d.n.args.length (d.n.args.map (Value.int .i64)))
theorem argsR_snoc (ds : List NodeV) (d : NodeV) : argsR (ds ++ [d]) = manyR (ds.map (fun d => rowR 3 1 d.va d.n.args.length (d.n.args.map (Value.int .i64))) ++ [rowR 3 1 d.va d.n.args.length (d.n.args.map (Value.int .i64))]) := by unfold argsR; rw [List.map_append]; rfl
def LabsOf (w : World) (ds : List NodeV) : Prop := ∀ d ∈ ds, ∃ al cl, d.vl = .slice al d.n.labels.length cl ∧ StrsAt w al d.n.labels ∧ d.n.labels.length ≤ cl
theorem LabsOf.snoc {w : World} {ds : List NodeV} {d : NodeV} (h : LabsOf w ds) (hd : ∃ al cl, d.vl = .slice al d.n.labels.length cl ∧ StrsAt w al d.n.labels ∧ d.n.labels.length ≤ cl) : LabsOf w (ds ++ [d]) := by
 intro x hx
 rcases List.mem_append.1 hx with hx | hx
 ·exact h x hx
 ·simp at hx; subst hx; exact hd
theorem labs_vals {w w' : World} {ds : List NodeV} (h : LabsOf w ds) (hb : Below w.heap.size w w') (ha : (argsR ds).P w') : ∀ d ∈ ds, NodeVal w' d := by
 intro d hd
 obtain ⟨al, cl, e1, h1, h2⟩ := h d hd
 obtain ⟨aa, ca, ea, la, ra⟩ := row_read (ha (rowR 3 1 d.va d.n.args.length (d.n.args.map (Value.int .i64))) (List.mem_map.2 ⟨d, hd, rfl⟩))
 exact ⟨aa, ca, al, cl, ea, e1, ra, h1.below hb, la, h2⟩
theorem _root_.Go.Tre.Mem.push1 {w0 w : World} {rs l : List Res} {a n : Res} (h : Mem w0 w (a :: n :: manyR l :: rs)) : Mem w0 w (n :: manyR (l ++ [a]) :: rs) := by
 have h2 : Mem w0 w (manyR l :: a :: n :: rs) := h.front 2 rfl
 have h3 : Mem w0 w (a :: manyR l :: n :: rs) := h2.front 1 rfl
 exact h3.into.front 1 rfl
def _root_.Go.Tre.factR (p : Prop) : Res := ⟨fun _ => False, fun _ => p, fun _ _ h _ => h, fun _ _ _ h => h.elim⟩
theorem _root_.Go.Tre.Mem.addFact {w0 w : World} {rs : List Res} {p : Prop} (h : Mem w0 w rs) (hp : p) : Mem w0 w (factR p :: rs) :=
 h.add ⟨rfl, rfl, rfl, Nat.le_refl _, fun _ _ _ => rfl⟩ (factR p) hp (fun _ hb => hb.elim)
end Go.Proofs.YtoieknnnadgfpaaGreatDoor.gr
namespace Go.Tre
open Go.RowKit Go.Maps
section
variable {w0 w w' : World} {rs : List Res}
theorem Mem.cloned {e : TypeId} {v : Value} {n : Nat} {xs : List Value} (hb : Below w.heap.size w w') (ho : w'.ownsRow w.heap.size e 1 v n xs) : Mem w w' [rowR e 1 v n xs] :=
 (Mem.nil w).add (grown_below hb) (rowR e 1 v n xs) ⟨ho.1, ho.2.imp id fun ⟨g, cap, cur, e1, _, rest⟩ => ⟨g, cap, cur, e1, Nat.zero_le _, rest⟩⟩ (fun b hb' => by
  rcases ho.2 with ⟨e1, _⟩ | ⟨g, cap, cur, e1, hg, _⟩
  ·rw [e1] at hb'; cases hb'
  ·rw [e1] at hb'; cases hb'; exact hg)
end
end Go.Tre
namespace Go.Proofs.YtoieknnnadgfpaaGreatDoor.gr
open Go.RowKit Go.Shelf Go.Maps Go.Tre lex
end Go.Proofs.YtoieknnnadgfpaaGreatDoor.gr
namespace Go.Proofs.YtoieknnnadgfpaaGreatDoor.gr
open Go.RowKit Go.Shelf Go.Maps Go.Tre lex
theorem nrow5 {w : World} {a : Option Addr} {c n : Nat} {L : List Value} (h : w.ownsRow 0 33 5 (.slice a n c) n L) : Row w 5 a n L := by
 obtain ⟨a', c', e, _, r⟩ := row_read h
 cases e
 exact r
end Go.Proofs.YtoieknnnadgfpaaGreatDoor.gr
namespace Go.Proofs.YtoieknnnadgfpaaGreatDoor.gr
open Go.RowKit Go.Shelf Go.Maps Go.Tre lex
def funR (a : Option Addr) (c b6 : Nat) (ds : List NodeV) (p q : Int) : Res := manyR [rowR 33 5 (.slice a (ds.length + 2) c) (ds.length + 2) (ds.flatMap NodeV.cells ++ (#[.int .i64 2, .string { data := #[105, 110, 116] }, .slice none 0 0, .slice none 0 0, .bool false, .int .i64 2, .string { data := #[45, 62] }, .slice (some ⟨b6, 0, none⟩) 2 2, .slice none 0 0, .bool false] : Array Value).toList), rowR 3 1 (.slice (some ⟨b6, 0, none⟩) 2 2) 2 [.int .i64 p, .int .i64 q]]
end Go.Proofs.YtoieknnnadgfpaaGreatDoor.gr
