/- sub.Is, of two types without free nodes. -/
import Derived.Test.YtoieknnnadgfpaaGreatDoorB11
import Derived.IntWalk
set_option linter.unusedVariables false
namespace Go.Proofs.YtoieknnnadgfpaaGreatDoor.gr
open Go.RowKit Go.Shelf Go.Maps Go.Tre lex
theorem closed_yes {g : Tre.Graph} (c0 : g.checkC = 0) (s : g.Shut) : closedB g = true := by unfold closedB; rw [c0, free_none c0 s]; rfl
theorem three {w0 w : World} {rs : List Res} {b : Nat} {t : TypeId} {x0 x1 x2 : Value} (h : Mem w0 w rs) (i : Nat) (hi : rs[i]? = some (cellsR b t #[x0, x1, x2])) :
  w.cell? ⟨b, 0, none⟩ = some x0 ∧ w.cell? ⟨b, 1, none⟩ = some x1 ∧ w.cell? ⟨b, 2, none⟩ = some x2 := ⟨h.cell i hi 0 rfl, h.cell i hi 1 rfl, h.cell i hi 2 rfl⟩
theorem ccells_one (l : List Tre.Claim) : ∀ u ∈ ccells l, u.oneCell' = true := fun u hu => by
 unfold ccells at hu
 obtain ⟨c, _, hu⟩ := List.mem_flatMap.1 hu
 simp at hu
 rcases hu with rfl | rfl | rfl <;> rfl
theorem idxG0 (n c n' c' : Nat) (a b : Option Addr) (r r' : Int) (w : World) : (Instr.index 81 (.agg #[.slice a n c, .int .i64 r, .slice b n' c', .int .i64 r']) (.int .i64 0)).run Tryz.prog w = .ok (.agg #[.slice a n c, .int .i64 r]) w := by kernel_rfl
theorem idxG1 (n c n' c' : Nat) (a b : Option Addr) (r r' : Int) (w : World) : (Instr.index 81 (.agg #[.slice a n c, .int .i64 r, .slice b n' c', .int .i64 r']) (.int .i64 1)).run Tryz.prog w = .ok (.agg #[.slice b n' c', .int .i64 r']) w := by kernel_rfl
set_option maxRecDepth 100000 in
set_option maxHeartbeats 16000000 in
theorem is_any (b1 o1 cg b2 o2 ch : Nat) (g h : Tre.Graph) (w : World) (hg : NodesAt w (some ⟨b1, o1, none⟩) g.ns) (hh : NodesAt w (some ⟨b2, o2, none⟩) h.ns) (wg : g.weight ≤ 2097152) (wh : h.weight ≤ 2097152) (ng : g.ns.length ≤ 512) (nh : h.ns.length ≤ 512) (hm : MaxAt w)
  (c0 : g.checkC = 0) (c1 : h.checkC = 0) (s0 : g.Shut) (s1 : h.Shut) :
  Calls Tryz.prog 19 #[.agg #[.slice (some ⟨b1, o1, none⟩) g.ns.length cg, .int .i64 g.root], .agg #[.slice (some ⟨b2, o2, none⟩) h.ns.length ch, .int .i64 h.root]] w fun e w' => e = .returned (.tuple #[.bool (subB g h), .int .i64 0]) ∧ Below w.heap.size w w' := by
 have M := ((Mem.nil w).allocR #[.slice (some ⟨b1, o1, none⟩) g.ns.length cg, .int .i64 g.root] 24).allocR #[.slice (some ⟨b2, o2, none⟩) h.ns.length ch, .int .i64 h.root] 24
 simp only [heapSize_alloc] at M
 have HM0 := Tre.hid M
 have HG := Tre.hid hg
 have HH := Tre.hid hh
 have HX := Tre.hid hm
 have OG := Tre.hid (Graph.ok_of c0)
 have OH := Tre.hid (Graph.ok_of c1)
 have HCKG : Hid (∀ W, Below w.heap.size w W → Calls Tryz.prog 10 #[.agg #[.slice (some ⟨b1, o1, none⟩) g.ns.length cg, .int .i64 g.root]] W fun e w' => e = .returned (.int .i64 0) ∧ Below W.heap.size W w') := fun W hW => by
  have K := check_any (some ⟨b1, o1, none⟩) cg g W (hg.below hW) (by omega) (hm.below hW)
  rw [c0] at K; exact K
 have HCKH : Hid (∀ W, Below w.heap.size w W → Calls Tryz.prog 10 #[.agg #[.slice (some ⟨b2, o2, none⟩) h.ns.length ch, .int .i64 h.root]] W fun e w' => e = .returned (.int .i64 0) ∧ Below W.heap.size W w') := fun W hW => by
  have K := check_any (some ⟨b2, o2, none⟩) ch h W (hh.below hW) (by omega) (hm.below hW)
  rw [c1] at K; exact K
 have HCLG : Hid (∀ W, Below w.heap.size w W → Calls Tryz.prog 14 #[.agg #[.slice (some ⟨b1, o1, none⟩) g.ns.length cg, .int .i64 g.root]] W fun e w' => e = .returned (.bool true) ∧ Below W.heap.size W w') := fun W hW => by
  have K := closed_any (some ⟨b1, o1, none⟩) cg g W (hg.below hW) (by omega) (hm.below hW)
  rw [closed_yes c0 s0] at K; exact K
 have HCLH : Hid (∀ W, Below w.heap.size w W → Calls Tryz.prog 14 #[.agg #[.slice (some ⟨b2, o2, none⟩) h.ns.length ch, .int .i64 h.root]] W fun e w' => e = .returned (.bool true) ∧ Below W.heap.size W w') := fun W hW => by
  have K := closed_any (some ⟨b2, o2, none⟩) ch h W (hh.below hW) (by omega) (hm.below hW)
  rw [closed_yes c1 s1] at K; exact K
 have HLC : Hid (leftC g h (fun _ => none) ≤ 2199023255552) := leftC_small ng nh wg wh _
 have r0 : Hid (g.root = ((g.root.toNat : Nat) : Int)) := by have := OG.out.root0; show _ = _; omega
 have r1 : Hid (h.root = ((h.root.toNat : Nat) : Int)) := by have := OH.out.root0; show _ = _; omega
 obtain ⟨ji, K1, K2, K3, K4⟩ := info_parts infoSC
 have L1 := Tre.hid K1
 have L2 := Tre.hid K2
 have L3 := Tre.hid K3
 have L4 := Tre.hid K4
 obtain ⟨g0, g1⟩ := M.two 1 rfl
 obtain ⟨h0, h1⟩ := M.two 0 rfl
 clear hg hh hm M c0 c1 s0 s1 K1 K2 K3 K4
 go_enter Tryz.func19, Tryz.ntmps19
 go_wp2_with fail
 clear g0 g1 h0 h1
 go_loopw [16] (fun v16 wr => ∃ k : Nat, k ≤ 2 ∧ v16 = .int .i64 (k : Int) ∧ Hid (Mem w wr [cellsR (w.heap.size + 1) 24 #[.slice (some ⟨b2, o2, none⟩) h.ns.length ch, .int .i64 h.root], cellsR w.heap.size 24 #[.slice (some ⟨b1, o1, none⟩) g.ns.length cg, .int .i64 g.root]]))
  (fun v16 _ => 2 - (intOf v16).toNat)
 case atStart => exact ⟨0, by omega, rfl, HM0.out⟩
 case round =>
  obtain ⟨k, hk, rfl, HI⟩ := hrel
  have hx0 := idxG0
  have hx1 := idxG1
  obtain rfl | rfl | rfl : k = 0 ∨ k = 1 ∨ k = 2 := by omega
  ·have HA := Tre.hid (HI.out.allocR #[.slice (some ⟨b1, o1, none⟩) g.ns.length cg, .int .i64 g.root] 24)
   obtain ⟨g0, g1⟩ := HA.out.two 0 rfl
   go_wp2_with fail
   refine (HCKG.out _ HA.out.below).mono ?_
   rintro e w1 ⟨rfl, bq⟩
   have HN := Tre.hid ((HA.out.quiet bq).drop1)
   clear bq g0 g1
   go_wp2_with fail
   go_roundw
   case rel => exact ⟨1, by omega, by go_num, HN.out⟩
   case measure => simp [intOf]
  ·have HA := Tre.hid (HI.out.allocR #[.slice (some ⟨b2, o2, none⟩) h.ns.length ch, .int .i64 h.root] 24)
   obtain ⟨g0, g1⟩ := HA.out.two 0 rfl
   go_wp2_with fail
   refine (HCKH.out _ HA.out.below).mono ?_
   rintro e w1 ⟨rfl, bq⟩
   have HN := Tre.hid ((HA.out.quiet bq).drop1)
   clear bq g0 g1
   go_wp2_with fail
   go_roundw
   case rel => exact ⟨2, by omega, by go_num, HN.out⟩
   case measure => simp [intOf]
  ·obtain ⟨g0, g1⟩ := HI.out.two 1 rfl
   go_wp2_with fail
   refine (HCLG.out _ HI.out.below).mono ?_
   rintro e w1 ⟨rfl, bq⟩
   have HI1 := Tre.hid (HI.out.quiet bq)
   clear bq g0 g1 HI
   obtain ⟨h0, h1⟩ := HI1.out.two 0 rfl
   go_wp2_with fail
   refine (HCLH.out _ HI1.out.below).mono ?_
   rintro e w2 ⟨rfl, bq⟩
   have HI2 := Tre.hid (HI1.out.quiet bq)
   clear bq h0 h1 HI1
   obtain ⟨g0, g1⟩ := HI2.out.two 1 rfl
   obtain ⟨h0, h1⟩ := HI2.out.two 0 rfl
   have MA := HI2.out.allocMap Tryz.prog 85 ec (fun _ : Unit => .bool true)
   obtain ⟨y0, y1⟩ := MA.two 2 rfl
   obtain ⟨z0, z1⟩ := MA.two 1 rfl
   have MB := MA.allocRow #[.int .i64 g.root, .int .i64 h.root, .bool false] 85 3 1 (by unfold maxLen; omega) rfl
   have MC := MB.allocR #[.slice (some ⟨b1, o1, none⟩) g.ns.length cg, .int .i64 g.root, .slice (some ⟨b2, o2, none⟩) h.ns.length ch, .int .i64 h.root, .map (some w2.heap.size), .slice (some ⟨w2.heap.size + 1, 0, none⟩) 1 1] 88
   simp only [heapSize_alloc] at MB MC
   have HMC : Hid (Mem w (((w2.alloc (.map #[] 0)).alloc (.cells #[.int .i64 g.root, .int .i64 h.root, .bool false] 85)).alloc (.cells #[.slice (some ⟨b1, o1, none⟩) g.ns.length cg, .int .i64 g.root, .slice (some ⟨b2, o2, none⟩) h.ns.length ch, .int .i64 h.root, .map (some w2.heap.size), .slice (some ⟨w2.heap.size + 1, 0, none⟩) 1 1] 88)) [cellsR (w2.heap.size + 2) 88 #[.slice (some ⟨b1, o1, none⟩) g.ns.length cg, .int .i64 g.root, .slice (some ⟨b2, o2, none⟩) h.ns.length ch, .int .i64 h.root, .map (some w2.heap.size), .slice (some ⟨w2.heap.size + 1, 0, none⟩) 1 1], rowR 85 3 (.slice (some ⟨w2.heap.size + 1, 0, none⟩) 1 1) ([(g.root.toNat, h.root.toNat, false)] : List Tre.Claim).length (ccells [(g.root.toNat, h.root.toNat, false)]), mapR Tryz.prog 85 ec (fun _ : Unit => .bool true) w2.heap.size 0 (fun _ => none)]) := by
    have hmc := ((MC.del 3).del 3)
    have e : ccells [(g.root.toNat, h.root.toNat, false)] = [.int .i64 g.root, .int .i64 h.root, .bool false] := by
     show [Value.int .i64 ((g.root.toNat : Nat) : Int), Value.int .i64 ((h.root.toNat : Nat) : Int), Value.bool false] = _
     rw [← r0.out, ← r1.out]
    show Mem _ _ _
    rw [e]
    exact hmc
   clear MA MB MC HI2
   have hmm := @run_makeMap Tryz.prog
   go_wp2_with fail
   clear hmm y0 y1 z0 z1 g0 g1 h0 h1
   generalize hw : ((w2.alloc (.map #[] 0)).alloc (.cells #[.int .i64 g.root, .int .i64 h.root, .bool false] 85)).alloc (.cells #[.slice (some ⟨b1, o1, none⟩) g.ns.length cg, .int .i64 g.root, .slice (some ⟨b2, o2, none⟩) h.ns.length ch, .int .i64 h.root, .map (some w2.heap.size), .slice (some ⟨w2.heap.size + 1, 0, none⟩) 1 1] 88) = w3 at *
   generalize hb : w2.heap.size = bm at *
   clear hw hb
   generalize hbp : bm + 2 = bP at *
   generalize hbr : bm + 1 = b0 at *
   clear hbp hbr
   go_loopg [10] (1 + leftC g h (fun _ => none)) (fun gk v10 wr => ∃ (u10 v : Value) (l : List Tre.Claim) (m : Tre.Claim → Option Unit) (nm : Nat), v10 = u10 ∧ Hid (SubInv g h l m) ∧ Hid (gk = l.length + leftC g h m ∧ gk ≤ 2199023255553) ∧ Hid (Mem w wr [cellsR bP 88 #[.slice (some ⟨b1, o1, none⟩) g.ns.length cg, .int .i64 g.root, .slice (some ⟨b2, o2, none⟩) h.ns.length ch, .int .i64 h.root, .map (some bm), v], rowR 85 3 v l.length (ccells l), mapR Tryz.prog 85 ec (fun _ : Unit => .bool true) bm nm (m)]))
   case atStart => exact ⟨_, _, [(g.root.toNat, h.root.toNat, false)], fun _ => none, 0, rfl, SubInv.start OG.out OH.out, ⟨rfl, by have := HLC.out; omega⟩, HMC.out⟩
   case round =>
    obtain ⟨u10, v, l, m, nm, rfl, hJ, hK, hM⟩ := hrel
    obtain ⟨av, cv, rfl, _⟩ := hM.out.val 1 rfl
    have p5 := hM.out.cell 0 rfl 5 rfl
    rcases List.eq_nil_or_concat l with hl | ⟨l', c, hl⟩
    ·subst hl
     have HB := Tre.hid hM.out.below
     have HS : Hid (subB g h = true) := hJ.out.all
     clear hM hJ
     go_wp2_with fail
     go_ret2
     exact ⟨by rw [HS.out]; rfl, HB.out⟩
    ·rw [List.concat_eq_append] at hl
     subst hl
     obtain ⟨x, y, t⟩ := c
     have hlt := hJ.out.lt (x, y, t) (.inl (by simp))
     have hxl : x < g.ns.length := hlt.1
     have hyl : y < h.ns.length := hlt.2
     clear hlt
     have hM' := hM.out
     rw [List.length_append, List.length_singleton, ccells_snoc] at hM'
     rw [List.length_append, List.length_singleton] at p5
     obtain ⟨gw, rfl, _, _, _⟩ := hM'.getRow 1 rfl (l'.length * 3) (u := .int .i64 (x : Int)) (by rw [List.getElem?_append_right (by rw [ccells_len]; omega), ccells_len, Nat.sub_self]; rfl)
     have hcc : l'.length + 1 ≤ cv := by obtain ⟨_, _, e, h⟩ := hM'.val 1 rfl; cases e; exact h
     have hlen : l'.length + 1 ≤ 2199023255553 := by have h1 := hK.out.1; have h2 := hK.out.2; rw [List.length_append, List.length_singleton] at h1; omega
     have HPX : Hid ((ccells l' ++ [Value.int .i64 (x : Int), .int .i64 (y : Int), .bool t])[l'.length * 3]? = some (.int .i64 (x : Int))) := by show _ = _; rw [List.getElem?_append_right (by rw [ccells_len]; omega), ccells_len, Nat.sub_self]; rfl
     have HPY : Hid ((ccells l' ++ [Value.int .i64 (x : Int), .int .i64 (y : Int), .bool t])[l'.length * 3 + 1]? = some (.int .i64 (y : Int))) := by show _ = _; rw [List.getElem?_append_right (by rw [ccells_len]; omega), ccells_len, show l'.length * 3 + 1 - l'.length * 3 = 1 by omega]; rfl
     have HPT : Hid ((ccells l' ++ [Value.int .i64 (x : Int), .int .i64 (y : Int), .bool t])[l'.length * 3 + 2]? = some (.bool t)) := by show _ = _; rw [List.getElem?_append_right (by rw [ccells_len]; omega), ccells_len, show l'.length * 3 + 2 - l'.length * 3 = 2 by omega]; rfl
     have HM9 : Hid (Mem w wr [cellsR bP 88 #[.slice (some ⟨b1, o1, none⟩) g.ns.length cg, .int .i64 g.root, .slice (some ⟨b2, o2, none⟩) h.ns.length ch, .int .i64 h.root, .map (some bm), .slice (some ⟨gw, 0, none⟩) (l'.length + 1) cv], rowR 85 3 (.slice (some ⟨gw, 0, none⟩) (l'.length + 1) cv) (l'.length + 1) (ccells l' ++ [.int .i64 (x : Int), .int .i64 (y : Int), .bool t]), mapR Tryz.prog 85 ec (fun _ : Unit => .bool true) bm nm (m)]) := hM'
     have hwr : IntKind.i64.wrap (l'.length : Int) = (l'.length : Int) := IntWalk.i64_in _ (by omega)
     have hpos : (0 : Int) < (l'.length : Int) + 1 := by omega
     have hpos2 : (l'.length : Int) < (l'.length : Int) + 1 := by omega
     have hpos3 : (0 : Int) ≤ (l'.length : Int) := by omega
     have hcc2 : l'.length ≤ cv := by omega
     have hcc3 : ¬ cv = 0 := by omega
     clear hM hM' hcc
     go_upto_region 12 with fail
     have cS : Cond (fun w' => w'.cell? ⟨bP, 5, none⟩ = some (.slice (some ⟨gw, 0, none⟩) (l'.length + 1) cv) ∧ w'.cell? ⟨gw, l'.length * 3, none⟩ = some (.int .i64 (x : Int)) ∧ w'.cell? ⟨gw, l'.length * 3 + 1, none⟩ = some (.int .i64 (y : Int)) ∧ w'.cell? ⟨gw, l'.length * 3 + 2, none⟩ = some (.bool t)) := ⟨⟩
     refine cS.keep [13] ?_ (fun hH => ?_)
     ·exact ⟨HM9.out.drew.cell 0 rfl 5 rfl, HM9.out.drew.cellAt 1 rfl _ HPX.out, HM9.out.drew.cellAt 1 rfl _ HPY.out, HM9.out.drew.cellAt 1 rfl _ HPT.out⟩
     have HC := Tre.hid HM9.out.drew
     generalize hq : World.drew _ = wq0 at HC hH ⊢
     clear hq
     refine lPv 0 (some 50) (.pointer (some ⟨bP, 0, none⟩)) (keep_of hH) ?_
     refine lPv 1 (some 51) (.pointer (some ⟨bP, 0, none⟩)) (keep_of hH) ?_
     refine lPv 2 (some 52) (.pointer (some ⟨bP, 5, none⟩)) (keep_of hH) ?_
     try simp only [Act.put, zqf, zqg, zqh]
     refine lTq 3 (some 53) (v := ?_) rfl ?_ hH ?_
     rotate_left
     ·intro w hSw; (try dsimp only at hSw); go_simp <;> with_reducible rfl
     try simp only [Act.put, zqf, zqg, zqh]
     refine lPv 4 (some 54) (.pointer (some ⟨bP, 0, none⟩)) (keep_of hH) ?_
     refine lPv 5 (some 55) (.pointer (some ⟨bP, 0, none⟩)) (keep_of hH) ?_
     refine lPv 6 (some 56) (.pointer (some ⟨bP, 5, none⟩)) (keep_of hH) ?_
     try simp only [Act.put, zqf, zqg, zqh]
     refine lTq 7 (some 57) (v := ?_) rfl ?_ hH ?_
     rotate_left
     ·intro w hSw; (try dsimp only at hSw); go_simp <;> with_reducible rfl
     try simp only [Act.put, zqf, zqg, zqh]
     try simp only [Act.put, zqf, zqg, zqh]
     refine lPq 8 (some 58) (v := ?_) rfl ?_ (keep_of hH) ?_
     rotate_left
     ·intro w; go_simp <;> with_reducible rfl
     try simp only [Act.put, zqf, zqg, zqh]
     refine lPq 9 (some 59) (v := ?_) rfl ?_ (keep_of hH) ?_
     rotate_left
     ·intro w; go_simp <;> with_reducible rfl
     try simp only [Act.put, zqf, zqg, zqh]
     refine lPq 10 (some 60) (v := ?_) rfl ?_ (keep_of hH) ?_
     rotate_left
     ·intro w; go_simp <;> with_reducible rfl
     try simp only [Act.put, zqf, zqg, zqh]
     refine lTq 11 (some 61) (v := ?_) rfl ?_ hH ?_
     rotate_left
     ·intro w hSw; (try dsimp only at hSw); go_simp <;> with_reducible rfl
     try simp only [Act.put, zqf, zqg, zqh]
     try simp only [Act.put, zqf, zqg, zqh]
     refine with_G (G0 := wpAnyL _ _ _ _ _ _) ?_
     intro G hG a0 hA
     have Z0 : Kept (∀ (b10 : Nat) (wq : World), Hid (Mem w wq [cellsR b10 85 #[.int .i64 (x : Int), .int .i64 (y : Int), .bool t], cellsR bP 88 #[.slice (some ⟨b1, o1, none⟩) g.ns.length cg, .int .i64 g.root, .slice (some ⟨b2, o2, none⟩) h.ns.length ch, .int .i64 h.root, .map (some bm), .slice (some ⟨gw, 0, none⟩) (l'.length + 1) cv], rowR 85 3 (.slice (some ⟨gw, 0, none⟩) (l'.length + 1) cv) (l'.length + 1) (ccells l' ++ [.int .i64 (x : Int), .int .i64 (y : Int), .bool t]), mapR Tryz.prog 85 ec (fun _ : Unit => .bool true) bm nm (m)]) → G 0 (bt 14 16383) (a0.put (some 10) (.pointer (some ⟨b10, 0, none⟩))) wq) := ⟨by
      intro b10 wq HC
      refine into_G hG ?_
      rw [hA.out]
      try simp only [Act.put, zqf, zqg, zqh]
      refine lDone (by kernel_rfl) ?_
      clear hA hG
      have HQ2 := HC
      clear HC
      go_upto_region 13 with fail
      have cS : Cond (fun w' => w'.cell? ⟨bP, 5, none⟩ = some (.slice (some ⟨gw, 0, none⟩) (l'.length + 1) cv)) := ⟨⟩
      refine cS.keep [14] ?_ (fun hH => ?_)
      ·exact HQ2.out.drew.cell 1 rfl 5 rfl
      have HC := Tre.hid HQ2.out.drew
      generalize hq : World.drew _ = wq0 at HC hH ⊢
      clear hq
      refine lPv 0 (some 62) (.pointer (some ⟨bP, 0, none⟩)) (keep_of hH) ?_
      refine lPv 1 (some 63) (.pointer (some ⟨bP, 0, none⟩)) (keep_of hH) ?_
      refine lPv 2 (some 64) (.pointer (some ⟨bP, 0, none⟩)) (keep_of hH) ?_
      refine lPv 3 (some 65) (.pointer (some ⟨bP, 5, none⟩)) (keep_of hH) ?_
      try simp only [Act.put, zqf, zqg, zqh]
      refine lTq 4 (some 66) (v := ?_) rfl ?_ hH ?_
      rotate_left
      ·intro w hSw; (try dsimp only at hSw); go_simp <;> with_reducible rfl
      try simp only [Act.put, zqf, zqg, zqh]
      refine lPv 5 (some 67) (.pointer (some ⟨bP, 0, none⟩)) (keep_of hH) ?_
      refine lPv 6 (some 68) (.pointer (some ⟨bP, 0, none⟩)) (keep_of hH) ?_
      refine lPv 7 (some 69) (.pointer (some ⟨bP, 5, none⟩)) (keep_of hH) ?_
      try simp only [Act.put, zqf, zqg, zqh]
      refine lTq 8 (some 70) (v := ?_) rfl ?_ hH ?_
      rotate_left
      ·intro w hSw; (try dsimp only at hSw); go_simp <;> with_reducible rfl
      try simp only [Act.put, zqf, zqg, zqh]
      try simp only [Act.put, zqf, zqg, zqh]
      refine lPq 9 (some 71) (v := ?_) rfl ?_ (keep_of hH) ?_
      rotate_left
      ·intro w; go_simp <;> with_reducible rfl
      try simp only [Act.put, zqf, zqg, zqh]
      refine lPq 10 (some 72) (v := ?_) rfl ?_ (keep_of hH) ?_
      rotate_left
      ·intro w; go_simp <;> with_reducible rfl
      try simp only [Act.put, zqf, zqg, zqh]
      refine lPq 11 (some 73) (v := ?_) rfl ?_ (keep_of hH) ?_
      rotate_left
      ·intro w; go_simp <;> with_reducible rfl
      refine lPv 12 (some 74) (.pointer (some ⟨bP, 0, none⟩)) (keep_of hH) ?_
      refine lPv 13 (some 75) (.pointer (some ⟨bP, 5, none⟩)) (keep_of hH) ?_
      try simp only [Act.put, zqf, zqg, zqh]
      refine with_G (G0 := wpAnyL _ _ _ _ _ _) ?_
      intro G hG a0 hA
      have Z0 : Kept (∀ (wq : World), Hid (Mem w wq [cellsR b10 85 #[.int .i64 (x : Int), .int .i64 (y : Int), .bool t], cellsR bP 88 #[.slice (some ⟨b1, o1, none⟩) g.ns.length cg, .int .i64 g.root, .slice (some ⟨b2, o2, none⟩) h.ns.length ch, .int .i64 h.root, .map (some bm), .slice (some ⟨gw, 0, none⟩) l'.length cv], rowR 85 3 (.slice (some ⟨gw, 0, none⟩) (l'.length + 1) cv) (l'.length + 1) (ccells l' ++ [.int .i64 (x : Int), .int .i64 (y : Int), .bool t]), mapR Tryz.prog 85 ec (fun _ : Unit => .bool true) bm nm (m)]) → G 0 (bt 15 32767) (a0) wq) := ⟨by
       intro  wq HC
       refine into_G hG ?_
       rw [hA.out]
       try simp only [Act.put, zqf, zqg, zqh]
       refine lDone (by kernel_rfl) ?_
       clear hA hG
       have h9 := HC.out.pop 2 rfl (ccells_len l')
       have HQ3 : Hid (Mem w wq [cellsR b10 85 #[.int .i64 (x : Int), .int .i64 (y : Int), .bool t], cellsR bP 88 #[.slice (some ⟨b1, o1, none⟩) g.ns.length cg, .int .i64 g.root, .slice (some ⟨b2, o2, none⟩) h.ns.length ch, .int .i64 h.root, .map (some bm), .slice (some ⟨gw, 0, none⟩) l'.length cv], rowR 85 3 (.slice (some ⟨gw, 0, none⟩) l'.length cv) l'.length (ccells l'), mapR Tryz.prog 85 ec (fun _ : Unit => .bool true) bm nm (m)]) := h9
       clear HC h9 p5
       obtain ⟨ly0, hly⟩ := kcl (x, y, t) (by show x ≤ _; omega) (by show y ≤ _; omega)
       have HKEY := Tre.hid hly
       cases hmx : m (x, y, t) with
       | some u =>
        have HLK : Hid (∀ W : World, MapIs Tryz.prog 85 ec (fun _ : Unit => .bool true) W bm nm m → (Instr.lookup 83 (.map (some bm)) (.agg #[.int .i64 (x : Int), .int .i64 (y : Int), .bool t]) false).run Tryz.prog W = .ok (.bool true) W) := fun W h => by
         have h2 := h.run_look KCL injC Tryz.underlying83 (zb W) hly
         rw [hmx] at h2
         exact h2
        have HMX : Hid (m (x, y, t) ≠ none) := by show _ ≠ _; rw [hmx]; simp
        clear hmx hly
        go_upto_region 14 with fail
        have cS : Cond (fun w' => w'.cell? ⟨bP, 4, none⟩ = some (.map (some bm)) ∧ w'.cell? ⟨b10, 0, none⟩ = some (.int .i64 (x : Int)) ∧ w'.cell? ⟨b10, 1, none⟩ = some (.int .i64 (y : Int)) ∧ w'.cell? ⟨b10, 2, none⟩ = some (.bool t) ∧ (Instr.lookup 83 (.map (some bm)) (.agg #[.int .i64 (x : Int), .int .i64 (y : Int), .bool t]) false).run Tryz.prog w' = .ok (.bool true) w') := ⟨⟩
        refine cS.keep [] ?_ (fun hH => ?_)
        ·exact ⟨HQ3.out.drew.cell 1 rfl 4 rfl, HQ3.out.drew.cell 0 rfl 0 rfl, HQ3.out.drew.cell 0 rfl 1 rfl, HQ3.out.drew.cell 0 rfl 2 rfl, HLK.out _ (HQ3.out.drew.map 3 rfl)⟩
        have HC := Tre.hid HQ3.out.drew
        generalize hq : World.drew _ = wq0 at HC hH ⊢
        clear hq
        refine lPv 0 (some 76) (.pointer (some ⟨bP, 0, none⟩)) (keep_of hH) ?_
        refine lPv 1 (some 77) (.pointer (some ⟨bP, 0, none⟩)) (keep_of hH) ?_
        refine lPv 2 (some 78) (.pointer (some ⟨bP, 4, none⟩)) (keep_of hH) ?_
        try simp only [Act.put, zqf, zqg, zqh]
        refine lTq 3 (some 79) (v := ?_) rfl ?_ hH ?_
        rotate_left
        ·intro w hSw; (try dsimp only at hSw); go_simp <;> with_reducible rfl
        try simp only [Act.put, zqf, zqg, zqh]
        try simp only [Act.put, zqf, zqg, zqh]
        refine lTq 4 (some 80) (v := ?_) rfl ?_ hH ?_
        rotate_left
        ·intro w hSw; (try dsimp only at hSw); go_simp <;> with_reducible rfl
        try simp only [Act.put, zqf, zqg, zqh]
        try simp only [Act.put, zqf, zqg, zqh]
        refine lTq 5 (some 81) (v := ?_) rfl ?_ hH ?_
        rotate_left
        ·intro w hSw; (try dsimp only at hSw); go_simp <;> with_reducible rfl
        try simp only [Act.put, zqf, zqg, zqh]
        try simp only [Act.put, zqf, zqg, zqh]
        refine with_G (G0 := wpAnyL _ _ _ _ _ _) ?_
        intro G hG a0 hA
        have Z0 : Kept (∀ (wq : World), Hid (Mem w wq [cellsR b10 85 #[.int .i64 (x : Int), .int .i64 (y : Int), .bool t], cellsR bP 88 #[.slice (some ⟨b1, o1, none⟩) g.ns.length cg, .int .i64 g.root, .slice (some ⟨b2, o2, none⟩) h.ns.length ch, .int .i64 h.root, .map (some bm), .slice (some ⟨gw, 0, none⟩) l'.length cv], rowR 85 3 (.slice (some ⟨gw, 0, none⟩) l'.length cv) l'.length (ccells l'), mapR Tryz.prog 85 ec (fun _ : Unit => .bool true) bm nm (m)]) → G 0 (bt 6 63) (a0) wq) := ⟨by
         intro  wq HC
         refine into_G hG ?_
         rw [hA.out]
         try simp only [Act.put, zqf, zqg, zqh]
         refine lDone (by kernel_rfl) ?_
         clear hA hG
         have HQ5 := HC
         clear HC
         go_wp2_with fail
         go_roundg (l'.length + leftC g h m)
         case measure => have h1 := hK.out.1; rw [List.length_append, List.length_singleton] at h1; omega
         case rel => exact ⟨_, _, l', m, nm, rfl, hJ.out.met HMX.out, ⟨rfl, by have h1 := hK.out.1; have h2 := hK.out.2; rw [List.length_append, List.length_singleton] at h1; omega⟩, HQ5.out.drop1⟩
        ⟩
        exact Z0.out  wq0 HC
       | none =>
        have HLK : Hid (∀ W : World, MapIs Tryz.prog 85 ec (fun _ : Unit => .bool true) W bm nm m → (Instr.lookup 83 (.map (some bm)) (.agg #[.int .i64 (x : Int), .int .i64 (y : Int), .bool t]) false).run Tryz.prog W = .ok (.bool false) W) := fun W h => by
         have h2 := h.run_look KCL injC Tryz.underlying83 (zb W) hly
         rw [hmx] at h2
         exact h2
        have HLM := Tre.hid (leftC_mark (c := (x, y, t)) hxl hyl hmx)
        obtain ⟨nm', hnm⟩ : ∃ k, (if (m (x, y, t)).isSome = true then nm else nm + 1) = k := ⟨_, rfl⟩
        have HNM := Tre.hid hnm
        clear hmx hly hnm
        go_upto_region 14 with fail
        have cS : Cond (fun w' => w'.cell? ⟨bP, 4, none⟩ = some (.map (some bm)) ∧ w'.cell? ⟨b10, 0, none⟩ = some (.int .i64 (x : Int)) ∧ w'.cell? ⟨b10, 1, none⟩ = some (.int .i64 (y : Int)) ∧ w'.cell? ⟨b10, 2, none⟩ = some (.bool t) ∧ (Instr.lookup 83 (.map (some bm)) (.agg #[.int .i64 (x : Int), .int .i64 (y : Int), .bool t]) false).run Tryz.prog w' = .ok (.bool false) w') := ⟨⟩
        refine cS.keep [] ?_ (fun hH => ?_)
        ·exact ⟨HQ3.out.drew.cell 1 rfl 4 rfl, HQ3.out.drew.cell 0 rfl 0 rfl, HQ3.out.drew.cell 0 rfl 1 rfl, HQ3.out.drew.cell 0 rfl 2 rfl, HLK.out _ (HQ3.out.drew.map 3 rfl)⟩
        have HC := Tre.hid HQ3.out.drew
        generalize hq : World.drew _ = wq0 at HC hH ⊢
        clear hq
        refine lPv 0 (some 76) (.pointer (some ⟨bP, 0, none⟩)) (keep_of hH) ?_
        refine lPv 1 (some 77) (.pointer (some ⟨bP, 0, none⟩)) (keep_of hH) ?_
        refine lPv 2 (some 78) (.pointer (some ⟨bP, 4, none⟩)) (keep_of hH) ?_
        try simp only [Act.put, zqf, zqg, zqh]
        refine lTq 3 (some 79) (v := ?_) rfl ?_ hH ?_
        rotate_left
        ·intro w hSw; (try dsimp only at hSw); go_simp <;> with_reducible rfl
        try simp only [Act.put, zqf, zqg, zqh]
        try simp only [Act.put, zqf, zqg, zqh]
        refine lTq 4 (some 80) (v := ?_) rfl ?_ hH ?_
        rotate_left
        ·intro w hSw; (try dsimp only at hSw); go_simp <;> with_reducible rfl
        try simp only [Act.put, zqf, zqg, zqh]
        try simp only [Act.put, zqf, zqg, zqh]
        refine lTq 5 (some 81) (v := ?_) rfl ?_ hH ?_
        rotate_left
        ·intro w hSw; (try dsimp only at hSw); go_simp <;> with_reducible rfl
        try simp only [Act.put, zqf, zqg, zqh]
        try simp only [Act.put, zqf, zqg, zqh]
        refine with_G (G0 := wpAnyL _ _ _ _ _ _) ?_
        intro G hG a0 hA
        have Z0 : Kept (∀ (wq : World), Hid (Mem w wq [cellsR b10 85 #[.int .i64 (x : Int), .int .i64 (y : Int), .bool t], cellsR bP 88 #[.slice (some ⟨b1, o1, none⟩) g.ns.length cg, .int .i64 g.root, .slice (some ⟨b2, o2, none⟩) h.ns.length ch, .int .i64 h.root, .map (some bm), .slice (some ⟨gw, 0, none⟩) l'.length cv], rowR 85 3 (.slice (some ⟨gw, 0, none⟩) l'.length cv) l'.length (ccells l'), mapR Tryz.prog 85 ec (fun _ : Unit => .bool true) bm nm (m)]) → G 0 (bt 6 63) (a0) wq) := ⟨by
         intro  wq HC
         refine into_G hG ?_
         rw [hA.out]
         try simp only [Act.put, zqf, zqg, zqh]
         refine lDone (by kernel_rfl) ?_
         clear hA hG
         have HQ4 := HC
         clear HC
         go_upto_region 15 with fail
         have cS : Cond (fun w' => w'.cell? ⟨bP, 4, none⟩ = some (.map (some bm)) ∧ w'.cell? ⟨b10, 0, none⟩ = some (.int .i64 (x : Int)) ∧ w'.cell? ⟨b10, 1, none⟩ = some (.int .i64 (y : Int)) ∧ w'.cell? ⟨b10, 2, none⟩ = some (.bool t)) := ⟨⟩
         refine cS.keep [5] ?_ (fun hH => ?_)
         ·exact ⟨HQ4.out.drew.cell 1 rfl 4 rfl, HQ4.out.drew.cell 0 rfl 0 rfl, HQ4.out.drew.cell 0 rfl 1 rfl, HQ4.out.drew.cell 0 rfl 2 rfl⟩
         have HC := Tre.hid HQ4.out.drew
         generalize hq : World.drew _ = wq0 at HC hH ⊢
         clear hq
         refine lPv 0 (some 82) (.pointer (some ⟨bP, 0, none⟩)) (keep_of hH) ?_
         refine lPv 1 (some 83) (.pointer (some ⟨bP, 0, none⟩)) (keep_of hH) ?_
         refine lPv 2 (some 84) (.pointer (some ⟨bP, 4, none⟩)) (keep_of hH) ?_
         try simp only [Act.put, zqf, zqg, zqh]
         refine lTq 3 (some 85) (v := ?_) rfl ?_ hH ?_
         rotate_left
         ·intro w hSw; (try dsimp only at hSw); go_simp <;> with_reducible rfl
         try simp only [Act.put, zqf, zqg, zqh]
         try simp only [Act.put, zqf, zqg, zqh]
         refine lTq 4 (some 86) (v := ?_) rfl ?_ hH ?_
         rotate_left
         ·intro w hSw; (try dsimp only at hSw); go_simp <;> with_reducible rfl
         try simp only [Act.put, zqf, zqg, zqh]
         try simp only [Act.put, zqf, zqg, zqh]
         refine with_G (G0 := wpAnyL _ _ _ _ _ _) ?_
         intro G hG a0 hA
         have Z0 : Kept (∀ (wq : World), Hid (Mem w wq [cellsR b10 85 #[.int .i64 (x : Int), .int .i64 (y : Int), .bool t], cellsR bP 88 #[.slice (some ⟨b1, o1, none⟩) g.ns.length cg, .int .i64 g.root, .slice (some ⟨b2, o2, none⟩) h.ns.length ch, .int .i64 h.root, .map (some bm), .slice (some ⟨gw, 0, none⟩) l'.length cv], rowR 85 3 (.slice (some ⟨gw, 0, none⟩) l'.length cv) l'.length (ccells l'), mapR Tryz.prog 85 ec (fun _ : Unit => .bool true) bm nm' (upd m (x, y, t) ())]) → G 0 (bt 6 63) (a0) wq) := ⟨by
          intro  wq HC
          refine into_G hG ?_
          rw [hA.out]
          try simp only [Act.put, zqf, zqg, zqh]
          refine lDone (by kernel_rfl) ?_
          clear hA hG
          have HQ5 := HC
          clear HC
          obtain ⟨z0, z1, z2⟩ := three HQ5.out 0 rfl
          have HF := Tre.hid (follows_any g h x y t bP b1 o1 cg b2 o2 ch wq (HQ5.out.cell 1 rfl 0 rfl) (HQ5.out.cell 1 rfl 2 rfl) (HG.out.below HQ5.out.below) (HH.out.below HQ5.out.below) OG.out OH.out hxl hyl wg wh)
          go_wp2_with fail
          refine HF.out.mono ?_
          rintro e w5 (⟨v, ks, rfl, hok, hmem, hlen, mv⟩ | ⟨v, rfl, hno, bv⟩)
          ·obtain ⟨ak, ck, rfl, _⟩ := mv.val 0 rfl
           have HOK := Tre.hid hok
           have HMM := Tre.hid hmem
           have HLE := Tre.hid hlen
           have HM6 := Tre.hid (HQ5.out.call mv)
           have hks : ks.length ≤ 4194304 := by have := deg_weight g x; have := deg_weight h y; omega
           clear hok hmem hlen mv HF HQ5 z0 z1 z2
           have k5 := HM6.out.cell 2 rfl 5 rfl
           go_wp2_with (at_builtin; refine wpList_append_row _ rfl _ _ 86 rfl 85 ji _ 3 24 Tryz.underlying86 L1.out L2.out L3.out L4.out rfl (by omega) (.slice (some ⟨gw, 0, none⟩) l'.length cv) l'.length (ccells l') rfl (HM6.out.row 3 rfl) ak ks.length ck (ccells ks) rfl (nrow3 (HM6.out.row 0 rfl)) (ccells_one ks) (by unfold maxLen; omega) (by omega) ?_; intro v' w9 hown4 hgrow4 hat4; rw [← ccells_append] at hown4; have M4 := HM6.out.grow 3 rfl hgrow4 hown4 hat4; obtain ⟨a4, c4, rfl, _⟩ := M4.val 3 rfl; have q6 : w9.cell? ⟨bP, 5, none⟩ = some (.slice (some ⟨gw, 0, none⟩) l'.length cv) := M4.cell 2 rfl 5 rfl; have f6 := M4.free 2 rfl 5; have HM4 := Tre.hid (M4.setCell 2 rfl 5 (.slice a4 (l'.length + ks.length) c4)); clear M4 hown4 hgrow4 hat4)
           go_roundg (l'.length + ks.length + leftC g h (upd m (x, y, t) ()))
           case measure => have h1 := hK.out.1; have h3 := HLM.out; have h4 := HLE.out; rw [List.length_append, List.length_singleton] at h1; omega
           case rel =>
            refine ⟨_, .slice a4 (l'.length + ks.length) c4, l' ++ ks, upd m (x, y, t) (), nm', rfl, hJ.out.more OG.out OH.out HOK.out HMM.out, ⟨by rw [List.length_append], by have h1 := hK.out.1; have h2 := hK.out.2; have h3 := HLM.out; have h4 := HLE.out; rw [List.length_append, List.length_singleton] at h1; omega⟩, ?_⟩
            show Mem _ _ _
            rw [List.length_append]
            exact (HM4.out.del 0).del 0
          ·have HS : Hid (subB g h = false) := hJ.out.fail hno
           have HB := Tre.hid (HQ5.out.quiet bv).below
           clear hno bv HF HQ5 z0 z1 z2
           go_wp2_with fail
           go_ret2
           exact ⟨by rw [HS.out]; rfl, HB.out⟩
         ⟩
         have Z1 : Kept (∀ (wq : World), Hid (Mem w wq [cellsR b10 85 #[.int .i64 (x : Int), .int .i64 (y : Int), .bool t], cellsR bP 88 #[.slice (some ⟨b1, o1, none⟩) g.ns.length cg, .int .i64 g.root, .slice (some ⟨b2, o2, none⟩) h.ns.length ch, .int .i64 h.root, .map (some bm), .slice (some ⟨gw, 0, none⟩) l'.length cv], rowR 85 3 (.slice (some ⟨gw, 0, none⟩) l'.length cv) l'.length (ccells l'), mapR Tryz.prog 85 ec (fun _ : Unit => .bool true) bm nm (m)]) → G 1 (bt 6 31) (a0) wq) := ⟨by
          intro  wq HC
          refine into_G hG ?_
          rw [hA.out]
          try simp only [Act.put, zqf, zqg, zqh]
          have hH := cS.is (w := wq) (⟨HC.out.cell 1 rfl 4 rfl, HC.out.cell 0 rfl 0 rfl, HC.out.cell 0 rfl 1 rfl, HC.out.cell 0 rfl 2 rfl⟩)
          refine lOne 5 (by kernel_rfl) ?_
          ·
           refine (LFall.op (by kernel_rfl) (fun K hK => ?_))
           obtain ⟨W2, hrun, hm2, hg2⟩ := (HC.out.map 3 rfl).run_store KCL injC Tryz.underlying83 HKEY.out ()
           rw [HNM.out] at hm2
           have hrun : (Instr.mapUpdate 83 (.map (some bm)) (.agg #[.int .i64 (x : Int), .int .i64 (y : Int), .bool t]) (.bool true)).run Tryz.prog wq = .ok () W2 := hrun
           have HN := Tre.hid (HC.out.put 3 rfl hg2 hm2)
           go_simp
           clear hrun hm2 hg2
           generalize W2 = wr at HN ⊢
           refine hK.out _ _ ?_
           exact outof_G hG (Z0.out  wr HN) (by kernel_rfl) (by rw [hA.out]; try kernel_rfl)
         ⟩
         exact Z1.out  wq0 HC
        ⟩
        exact Z0.out  wq0 HC
      ⟩
      have Z1 : Kept (∀ (wq : World), Hid (Mem w wq [cellsR b10 85 #[.int .i64 (x : Int), .int .i64 (y : Int), .bool t], cellsR bP 88 #[.slice (some ⟨b1, o1, none⟩) g.ns.length cg, .int .i64 g.root, .slice (some ⟨b2, o2, none⟩) h.ns.length ch, .int .i64 h.root, .map (some bm), .slice (some ⟨gw, 0, none⟩) (l'.length + 1) cv], rowR 85 3 (.slice (some ⟨gw, 0, none⟩) (l'.length + 1) cv) (l'.length + 1) (ccells l' ++ [.int .i64 (x : Int), .int .i64 (y : Int), .bool t]), mapR Tryz.prog 85 ec (fun _ : Unit => .bool true) bm nm (m)]) → G 1 (bt 15 16383) (a0) wq) := ⟨by
       intro  wq HC
       refine into_G hG ?_
       rw [hA.out]
       try simp only [Act.put, zqf, zqg, zqh]
       have hH := cS.is (w := wq) (HC.out.cell 1 rfl 5 rfl)
       refine lOne 14 (by kernel_rfl) ?_
       ·
        refine (LFall.op (by kernel_rfl) (fun K hK => ?_))
        have z0 := HC.out.free 1 rfl 5
        have y0 := HC.out.cell 1 rfl 5 rfl
        have HN := Tre.hid (HC.out.setCell 1 rfl 5 (.slice (some ⟨gw, 0, none⟩) l'.length cv))
        go_simp
        clear z0 y0
        generalize hw : World.setCell _ ⟨bP, 5, none⟩ _ = wr at HN ⊢
        clear hw
        refine hK.out _ _ ?_
        exact outof_G hG (Z0.out  wr HN) (by kernel_rfl) (by rw [hA.out]; try kernel_rfl)
      ⟩
      exact Z1.out  wq0 HC
     ⟩
     have Z1 : Kept (∀ (b10 : Nat) (wq : World), Hid (Mem w wq [cellsR b10 85 #[.int .i64 0, .int .i64 0, .bool false], cellsR bP 88 #[.slice (some ⟨b1, o1, none⟩) g.ns.length cg, .int .i64 g.root, .slice (some ⟨b2, o2, none⟩) h.ns.length ch, .int .i64 h.root, .map (some bm), .slice (some ⟨gw, 0, none⟩) (l'.length + 1) cv], rowR 85 3 (.slice (some ⟨gw, 0, none⟩) (l'.length + 1) cv) (l'.length + 1) (ccells l' ++ [.int .i64 (x : Int), .int .i64 (y : Int), .bool t]), mapR Tryz.prog 85 ec (fun _ : Unit => .bool true) bm nm (m)]) → G 1 (bt 14 8191) (a0.put (some 10) (.pointer (some ⟨b10, 0, none⟩))) wq) := ⟨by
      intro b10 wq HC
      refine into_G hG ?_
      rw [hA.out]
      try simp only [Act.put, zqf, zqg, zqh]
      have hH := cS.is (w := wq) (⟨HC.out.cell 1 rfl 5 rfl, HC.out.cellAt 2 rfl _ HPX.out, HC.out.cellAt 2 rfl _ HPY.out, HC.out.cellAt 2 rfl _ HPT.out⟩)
      refine lOne 13 (by kernel_rfl) ?_
      ·
       refine (LFall.op (by kernel_rfl) (fun K hK => ?_))
       have z0 := HC.out.free 0 rfl 0
       have z1 := HC.out.free 0 rfl 1
       have z2 := HC.out.free 0 rfl 2
       have y0 := HC.out.cell 0 rfl 0 rfl
       have y1 := HC.out.cell 0 rfl 1 rfl
       have y2 := HC.out.cell 0 rfl 2 rfl
       have HN := Tre.hid (((HC.out.setCell 0 rfl 0 (.int .i64 (x : Int))).setCell 0 rfl 1 (.int .i64 (y : Int))).setCell 0 rfl 2 (.bool t))
       go_simp
       clear z0 z1 z2 y0 y1 y2
       generalize hw : World.setCell _ ⟨b10, 2, none⟩ _ = wr at HN ⊢
       clear hw
       refine hK.out _ _ ?_
       exact outof_G hG (Z0.out b10 wr HN) (by kernel_rfl) (by rw [hA.out]; try kernel_rfl)
     ⟩
     have Z2 : Kept (∀ (wq : World), Hid (Mem w wq [cellsR bP 88 #[.slice (some ⟨b1, o1, none⟩) g.ns.length cg, .int .i64 g.root, .slice (some ⟨b2, o2, none⟩) h.ns.length ch, .int .i64 h.root, .map (some bm), .slice (some ⟨gw, 0, none⟩) (l'.length + 1) cv], rowR 85 3 (.slice (some ⟨gw, 0, none⟩) (l'.length + 1) cv) (l'.length + 1) (ccells l' ++ [.int .i64 (x : Int), .int .i64 (y : Int), .bool t]), mapR Tryz.prog 85 ec (fun _ : Unit => .bool true) bm nm (m)]) → G 2 (bt 14 4095) (a0) wq) := ⟨by
      intro  wq HC
      refine into_G hG ?_
      rw [hA.out]
      have hH := cS.is (w := wq) (⟨HC.out.cell 0 rfl 5 rfl, HC.out.cellAt 1 rfl _ HPX.out, HC.out.cellAt 1 rfl _ HPY.out, HC.out.cellAt 1 rfl _ HPT.out⟩)
      refine lOne 12 (by kernel_rfl) ?_
      ·
       have HN := Tre.hid (HC.out.allocR #[.int .i64 0, .int .i64 0, .bool false] 85)
       have hH2 := cS.is (w := (wq.alloc (.cells #[.int .i64 0, .int .i64 0, .bool false] 85))) (⟨HN.out.cell 1 rfl 5 rfl, HN.out.cellAt 2 rfl _ HPX.out, HN.out.cellAt 2 rfl _ HPY.out, HN.out.cellAt 2 rfl _ HPT.out⟩)
       refine LStep.made (some 10) (.pointer (some ⟨wq.heap.size, 0, none⟩)) _ (by kernel_rfl) (by kernel_rfl) hH2 ?_
       exact outof_G hG (Z1.out wq.heap.size _ HN) (by kernel_rfl) (by rw [hA.out]; try kernel_rfl)
     ⟩
     exact Z2.out  wq0 HC
end Go.Proofs.YtoieknnnadgfpaaGreatDoor.gr
