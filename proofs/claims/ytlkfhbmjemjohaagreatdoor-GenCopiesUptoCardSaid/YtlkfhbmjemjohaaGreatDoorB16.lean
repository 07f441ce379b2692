/- solve.Unify of a graph and a copy of its part. -/
import Derived.Test.YtlkfhbmjemjohaaGreatDoorB15
import Derived.Test.YtlkfhbmjemjohaaGreatDoorB03
set_option linter.unusedVariables false
namespace Go.Tre
theorem label_weight {f : Tre.Graph} {i : Nat} (hi : i < f.ns.length) {l : ByteArray} (hl : l ∈ (f.nd i).labels) : l.size ≤ f.weight := by
 have h1 : (f.nd i).weight ≤ f.weight := by rw [Graph.nd_eq hi]; exact mem_le_sum' Node.weight (List.getElem_mem hi)
 have h2 := mem_le_sum' (fun s : ByteArray => s.size + 1) hl
 unfold Node.weight at h1
 omega
theorem deg_weight {f : Tre.Graph} {i : Nat} (hi : i < f.ns.length) : f.deg i ≤ f.weight := by
 have h1 : (f.nd i).weight ≤ f.weight := by rw [Graph.nd_eq hi]; exact mem_le_sum' Node.weight (List.getElem_mem hi)
 unfold Node.weight at h1
 unfold Graph.deg
 omega
end Go.Tre
namespace Go.Proofs.YtlkfhbmjemjohaaGreatDoor.sol
open Go.RowKit Go.Shelf Go.Maps Go.MapKept Go.ChangeMaps Go.Tre lex gr
set_option maxRecDepth 100000 in
set_option maxHeartbeats 32000000 in
theorem unify_ok {f : Tre.Graph} {n : Nat} {orig : Nat → Nat} (t : Tre.Twin f n orig) (p : Nat × Nat) (hp : p.1 < f.ns.length ∧ p.2 < f.ns.length) (ho : orig p.1 = orig p.2) (b1 o1 ca gp cp : Nat) (w : World) (hg : NodesAt w (some ⟨b1, o1, none⟩) f.ns) (wf : f.weight ≤ 1048576) (hN : f.ns.length ≤ 4096) (hwd : f.wide ≤ 1048576) (hx : MaxAt w) (hpr : Row w 2 (some ⟨gp, 0, none⟩) 1 [en p.1, en p.2]) :
  Calls Tryz.prog 8 #[.agg #[.slice (some ⟨b1, o1, none⟩) f.ns.length ca, .int .i64 f.root], .slice (some ⟨gp, 0, none⟩) 1 cp] w fun e w' => ∃ (on rank has : List Nat) (aN : Option Addr) (cN : Nat) (vR : Value) (ds : List NodeV), e = .returned (.tuple #[.agg #[.slice aN ds.length cN, .int .i64 (unifG f on has).root], vR, .int .i64 0]) ∧
   SInv f orig p on rank has [] ∧ ds.map NodeV.n = (unifG f on has).ns ∧ Mem w w' [nodesR (.slice aN ds.length cN) ds, kidsR ds] := by
 have og := Graph.ok_of t.ok
 have hmay : ∀ i, i < f.ns.length → MayK (f.nd i) := fun i hi => mayK_of (og.may i hi)
 have hlab : ∀ i, i < f.ns.length → ∀ l ∈ (f.nd i).labels, l.size ≤ 4194304 := fun i hi l hl => by have := label_weight hi hl; omega
 have hdeg : ∀ i, i < f.ns.length → f.deg i ≤ 4194304 := fun i hi => by have := deg_weight hi; omega
 have hroot : f.root = ((f.root.toNat : Nat) : Int) := by have := og.root0; omega
 have HRT := Tre.hid og.root1
 have HR0 := Tre.hid hroot
 have HC0 := Tre.hid t.ok
 have HT := Tre.hid t
 have HG := Tre.hid hg
 have HX := Tre.hid hx
 have HPR := Tre.hid hpr
 have HO := Tre.hid ho
 have HMY := Tre.hid hmay
 have HLB := Tre.hid hlab
 have HDG := Tre.hid hdeg
 have HP := Tre.hid hp
 obtain ⟨p1, p2⟩ := p
 obtain ⟨q1, q2⟩ := hp
 have M0 := ((Mem.nil w).allocR #[.slice (some ⟨b1, o1, none⟩) f.ns.length ca, .int .i64 f.root] 24).allocR #[.slice none 0 0, .int .i64 0] 24
 simp only [heapSize_alloc] at M0
 have HM0 := Tre.hid M0
 have hq1 : p1 < f.ns.length := q1
 have hq2 : p2 < f.ns.length := q2
 have hpq0 : w.cell? ⟨gp, 0, none⟩ = some (.int .i64 (p1 : Int)) := by
  obtain ⟨b, o, e, h⟩ := hpr.at_ 0 _ rfl
  cases e; exact h
 have hpq1 : w.cell? ⟨gp, 1, none⟩ = some (.int .i64 (p2 : Int)) := by
  obtain ⟨b, o, e, h⟩ := hpr.at_ 1 _ rfl
  cases e; exact h
 have HQ0 := Tre.hid hpq0
 have HQ1 := Tre.hid hpq1
 clear q1 q2 hg hx hpr ho hmay hlab hdeg t og hroot M0 hpq0 hpq1
 go_enter Tryz.func8, Tryz.ntmps8
 go_wp2_with fail
 refine (check_any (some ⟨b1, o1, none⟩) ca f _ (HG.out.below HM0.out.below) (by omega) (HX.out.below HM0.out.below)).mono ?_
 rintro e w1 ⟨rfl, b1'⟩
 rw [HC0.out]
 have M1 := HM0.out.quiet b1'
 have r0 := cell_below M1.below HQ0.out
 have r1 := cell_below M1.below HQ1.out
 obtain ⟨g0, g1⟩ := M1.two 1 rfl
 have HM1 := Tre.hid (M1.allocR #[.int .i64 (p1 : Int), .int .i64 (p2 : Int)] 34)
 generalize hz0 : w.heap.size + 1 = bE at *
 generalize hz1 : w.heap.size = bG at *
 clear M1 b1' hz0 hz1 HM0
 have m1 : ¬ (min (p1 : Int) (p2 : Int) < 0) := by omega
 have m2 : ¬ ((f.ns.length : Int) ≤ max (p1 : Int) (p2 : Int)) := by omega
 have g2 : (w1.alloc (.cells #[.int .i64 (p1 : Int), .int .i64 (p2 : Int)] 34)).cell? ⟨bG, 0, none⟩ = some (.slice (some ⟨b1, o1, none⟩) f.ns.length ca) := HM1.out.cell 2 rfl 0 rfl
 go_wp2_with fail
 refine wp_loop_rounds 2 ?_
 rw [rounds_succ]
 go_wp2_with fail
 generalize hz2 : w1.heap.size = b9 at *
 generalize hww : w1.alloc _ = w2 at HM1 g2 ⊢
 clear hz2 hww g2 m1 m2 r0 r1 g0 g1
 obtain ⟨g0, g1⟩ := HM1.out.two 2 rfl
 rw [rounds_succ]
 go_wp2_with fail
 refine (start_any b1 o1 ca f w w2 HM1.out.below HG.out HMY.out HLB.out HDG.out (by omega)).mono ?_
 rintro e w3 ⟨s, cs, aO, cO, aR, cR, aH, cH, rfl, hcl, hck, m3⟩
 have HCSL := Tre.hid hcl
 have HSO : Hid (SolOk w f cs) := ⟨hcl, fun i hi => (hck i hi).1, fun i hi => (hck i hi).2, HMY.out, HLB.out, HDG.out, by omega⟩
 have M3 := (HM1.out.call m3).allocR #[.pointer (some ⟨s, 0, none⟩)] 59
 generalize hz2 : w3.heap.size = b10 at M3 ⊢
 have HM3 := Tre.hid M3
 clear m3 M3 hcl hck g0 g1 HM1
 go_wp2_with fail
 generalize hww : w3.alloc _ = w4 at HM3 ⊢
 clear hz2 hww
 have s0 : w4.cell? ⟨b10, 0, none⟩ = some (.pointer (some ⟨s, 0, none⟩)) := HM3.out.cell 0 rfl 0 rfl
 have cS : Cond (fun w' => w'.cell? ⟨b10, 0, none⟩ = some (.pointer (some ⟨s, 0, none⟩))) := ⟨⟩
 refine cS.keep [5] ?_ (fun hH0 => ?_)
 ·exact s0
 have HQ := Tre.hid HM3.out.drew
 generalize hq : World.drew _ = wq0 at HQ hH0 ⊢
 clear hq HM3 s0
 refine lPq 1 (some 54) (v := ?_) rfl ?_ (keep_of hH0) ?_
 rotate_left
 ·intro w; go_simp <;> with_reducible rfl
 try simp only [Act.put, zqf, zqg, zqh]
 refine lTq 0 (some 53) (v := ?_) rfl ?_ hH0 ?_
 rotate_left
 ·intro w hSw; (try dsimp only at hSw); go_simp <;> with_reducible rfl
 try simp only [Act.put, zqf, zqg, zqh]
 refine lOne 2 (by kernel_rfl) (LStep.op (fun K hK => ?_))
 go_simp
 refine (clone_pairs (some ⟨gp, 0, none⟩) cp 1 [en p1, en p2] wq0 (HPR.out.below HQ.out.below) (by simp [Value.oneCell']) (by simp) (by omega)).mono ?_
 rintro e' wq1 ⟨aW, cW, rfl, mW⟩
 have M5 := HQ.out.call mW
 have t1 : wq1.cell? ⟨b10, 0, none⟩ = some (.pointer (some ⟨s, 0, none⟩)) := M5.cell 1 rfl 0 rfl
 have HQ1 := Tre.hid M5
 clear mW M5
 (try dsimp only)
 refine hK.out _ _ ?_ (fun hH1 => ?_)
 ·exact t1
 clear hK K hH0
 try simp only [Act.put, zqf, zqg, zqh]
 refine lPq 3 (some 56) (v := ?_) rfl ?_ (keep_of hH1) ?_
 rotate_left
 ·intro w; go_simp <;> with_reducible rfl
 try simp only [Act.put, zqf, zqg, zqh]
 refine lPq 4 (some 57) (v := ?_) rfl ?_ (keep_of hH1) ?_
 rotate_left
 ·intro w; go_simp <;> with_reducible rfl
 try simp only [Act.put, zqf, zqg, zqh]
 refine lOne 5 (by kernel_rfl) (LFall.op (by kernel_rfl) (fun K hK => ?_))
 clear t1
 have z0 := HQ1.out.free 2 rfl 3
 have y0 : wq1.cell? ⟨s, 3, none⟩ = some (.slice none 0 0) := HQ1.out.cell 2 rfl 3 rfl
 have M6 := HQ1.out.setCell 2 rfl 3 (.slice aW 1 cW)
 go_simp
 generalize hw : wq1.setCell ⟨s, 3, none⟩ _ = w5 at M6 ⊢
 have HM5 := Tre.hid M6
 clear M6 hw z0 y0
 refine hK.out _ _ ?_
 clear hK K hH1
 try simp only [Act.put, zqf, zqg, zqh]
 refine lDone (by kernel_rfl) ?_
 have h0N : 0 < f.ns.length := by have := HRT.out; omega
 obtain ⟨gO, e1, _, _, _⟩ := HM5.out.getRow 3 rfl 0 (u := en 0) (by rw [List.getElem?_map, List.getElem?_range h0N]; rfl)
 obtain ⟨gR, e2, _, _, _⟩ := HM5.out.getRow 4 rfl 0 (u := en 0) (by rw [List.getElem?_map, List.getElem?_replicate, if_pos h0N]; rfl)
 obtain ⟨gH, e3, _, _, _⟩ := HM5.out.getRow 5 rfl 0 (u := .int .i64 (cs.getD 0 zeroC).n.kind) (by
  have h := hasCells_at cs (List.range f.ns.length) 0 0 (by rw [List.length_range]; exact h0N) (by omega)
  rw [List.getD_eq_getElem?_getD (l := List.range _), List.getElem?_range h0N] at h
  exact h)
 subst e1 e2 e3
 have s0 : w5.cell? ⟨b10, 0, none⟩ = some (.pointer (some ⟨s, 0, none⟩)) := HM5.out.cell 1 rfl 0 rfl
 have M7 := HM5.out.allocR #[.pointer none] 65
 generalize hz2 : w5.heap.size = b11 at M7 ⊢
 have s1 : (w5.alloc (.cells #[.pointer none] 65)).cell? ⟨b10, 0, none⟩ = some (.pointer (some ⟨s, 0, none⟩)) := M7.cell 2 rfl 0 rfl
 have hroots : rootsOf (List.range f.ns.length) ≤ f.ns.length := by
  have h := List.length_filter_le (fun i => decide ((List.range f.ns.length).getD i 0 = i)) (List.range (List.range f.ns.length).length)
  rw [List.length_range, List.length_range] at h
  unfold rootsOf
  rw [List.length_range]
  exact h
 have hmul : rootsOf (List.range f.ns.length) * (f.wide + 1) ≤ 4096 * 1048577 := Nat.mul_le_mul (by omega) (by omega)
 have HRUN := Tre.hid (run_any HT.out cs s (List.range f.ns.length) (List.replicate f.ns.length 0) (List.range f.ns.length) [(p1, p2)] w _ _ HSO.out (SInv.start HT.out HP.out HO.out) (by simp only [List.length_singleton]; omega) ⟨gO, cO, gR, cR, gH, cH, aW, cW, (((((((((M7).front 2 rfl).front 1 rfl).front 6 rfl).front 6 rfl).front 6 rfl).front 7 rfl).front 6 rfl).front 7 rfl)⟩)
 clear M7 hroots hmul HM5 s0
 go_wp2_with fail
 refine HRUN.out.mono ?_
 rintro e w6 ⟨rfl, on, rank, has, hs, hst⟩
 clear s1 hz2 HRUN
 obtain ⟨gO, cO, gR, cR, gH, cH, aW, cW, M6⟩ := hst
 have HS := Tre.hid hs
 have HM6 := Tre.hid M6
 clear hs M6
 go_wp2_with fail
 refine (as_nilS _ w6).mono ?_
 rintro e w7 ⟨rfl, rfl⟩
 have hmk0 : ∀ (w : World), (Instr.makeMap 54 none).run Tryz.prog w = .ok (.map (some w.heap.size)) (w.alloc (.map #[] 0)) := fun w => by
  simp [Instr.makeMap, newObj]; rfl
 have M8 := (HM6.out.allocMap Tryz.prog 3 en en).allocR #[.map (some w7.heap.size)] 54
 simp only [heapSize_alloc] at M8
 have g0 : ((w7.alloc (.map #[] 0)).alloc (.cells #[.map (some w7.heap.size)] 54)).cell? ⟨bG, 0, none⟩ = some (.slice (some ⟨b1, o1, none⟩) f.ns.length ca) := M8.cell 12 rfl 0 rfl
 have HM8 := Tre.hid M8
 clear M8 HM6
 go_wp2_with fail
 generalize hz2 : w7.heap.size + 1 = b12 at *
 generalize hz3 : w7.heap.size = bm at *
 generalize hww : World.alloc _ _ = w8 at HM8 g0 ⊢
 clear hz2 hz3 hww g0
 go_loopw [67] (fun v67 wr => ∃ (k cnt : Nat), k ≤ f.ns.length ∧ v67 = .int .i64 k ∧ Hid (Mem w wr [cellsR b12 54 #[.map (some bm)], mapR Tryz.prog 3 en en bm cnt (firstM on k), cellsR s 64 #[.slice (some ⟨gO, 0, none⟩) f.ns.length cO, .slice (some ⟨gR, 0, none⟩) f.ns.length cR, .slice (some ⟨gH, 0, none⟩) f.ns.length cH, .slice aW 0 cW], rowR 34 2 (.slice aW 0 cW) 0 [], mapsR cs, rowR 3 1 (.slice (some ⟨gO, 0, none⟩) f.ns.length cO) f.ns.length (on.map en), rowR 3 1 (.slice (some ⟨gR, 0, none⟩) f.ns.length cR) f.ns.length (rank.map en), rowR 72 5 (.slice (some ⟨gH, 0, none⟩) f.ns.length cH) f.ns.length (hasCells cs has), cellsR b11 65 #[.pointer none], cellsR b10 59 #[.pointer (some ⟨s, 0, none⟩)], cellsR b9 34 #[.int .i64 (p1 : Int), .int .i64 (p2 : Int)], cellsR bE 24 #[.slice none 0 0, .int .i64 0], cellsR bG 24 #[.slice (some ⟨b1, o1, none⟩) f.ns.length ca, .int .i64 f.root]]))
  (fun v67 _ => f.ns.length - (intOf v67).toNat)
 case atStart => exact ⟨0, 0, Nat.zero_le _, rfl, by have h := HM8.out; rw [← firstM_zero on] at h; exact h⟩
 case round =>
 clear HM8 hmk0
 obtain ⟨k, cnt, hk, rfl, HM⟩ := hrel
 by_cases hlt : k < f.ns.length
 ·have hkl : k < on.length := by rw [HS.out.lon]; exact hlt
  have i1 : (k : Int) < (f.ns.length : Int) := by omega
  have HFD : Hid (∀ W : World, Mem w W [cellsR b12 54 #[.map (some bm)], mapR Tryz.prog 3 en en bm cnt (firstM on k), cellsR s 64 #[.slice (some ⟨gO, 0, none⟩) f.ns.length cO, .slice (some ⟨gR, 0, none⟩) f.ns.length cR, .slice (some ⟨gH, 0, none⟩) f.ns.length cH, .slice aW 0 cW], rowR 34 2 (.slice aW 0 cW) 0 [], mapsR cs, rowR 3 1 (.slice (some ⟨gO, 0, none⟩) f.ns.length cO) f.ns.length (on.map en), rowR 3 1 (.slice (some ⟨gR, 0, none⟩) f.ns.length cR) f.ns.length (rank.map en), rowR 72 5 (.slice (some ⟨gH, 0, none⟩) f.ns.length cH) f.ns.length (hasCells cs has), cellsR b11 65 #[.pointer none], cellsR b10 59 #[.pointer (some ⟨s, 0, none⟩)], cellsR b9 34 #[.int .i64 (p1 : Int), .int .i64 (p2 : Int)], cellsR bE 24 #[.slice none 0 0, .int .i64 0], cellsR bG 24 #[.slice (some ⟨b1, o1, none⟩) f.ns.length ca, .int .i64 f.root]] → Calls Tryz.prog 27 #[.pointer (some ⟨s, 0, none⟩), .int .i64 (k : Int)] W fun e w' => e = .returned (.int .i64 ((on.getD k 0 : Nat) : Int)) ∧ Below W.heap.size W w') := fun W h => find_any s gO cO on k W (onAt2 HS.out h 2 5 rfl rfl) hkl (by rw [HS.out.lon]; omega)
  have hr : on[k] = on.getD k 0 := by rw [List.getD_eq_getElem?_getD, List.getElem?_eq_getElem hkl]; rfl
  have hrl := HS.out.on_lt k hlt
  have c1 : wr.cell? ⟨b12, 0, none⟩ = some (.map (some bm)) := HM.out.cell 0 rfl 0 rfl
  have c2 : wr.cell? ⟨b10, 0, none⟩ = some (.pointer (some ⟨s, 0, none⟩)) := HM.out.cell 9 rfl 0 rfl
  by_cases hmem : on[k] ∈ on.take k
  ·obtain ⟨f1, f2⟩ := firstM_old hkl hmem
   rw [hr] at f1
   have HLK : Hid (∀ W : World, Mem w W [cellsR b12 54 #[.map (some bm)], mapR Tryz.prog 3 en en bm cnt (firstM on k), cellsR s 64 #[.slice (some ⟨gO, 0, none⟩) f.ns.length cO, .slice (some ⟨gR, 0, none⟩) f.ns.length cR, .slice (some ⟨gH, 0, none⟩) f.ns.length cH, .slice aW 0 cW], rowR 34 2 (.slice aW 0 cW) 0 [], mapsR cs, rowR 3 1 (.slice (some ⟨gO, 0, none⟩) f.ns.length cO) f.ns.length (on.map en), rowR 3 1 (.slice (some ⟨gR, 0, none⟩) f.ns.length cR) f.ns.length (rank.map en), rowR 72 5 (.slice (some ⟨gH, 0, none⟩) f.ns.length cH) f.ns.length (hasCells cs has), cellsR b11 65 #[.pointer none], cellsR b10 59 #[.pointer (some ⟨s, 0, none⟩)], cellsR b9 34 #[.int .i64 (p1 : Int), .int .i64 (p2 : Int)], cellsR bE 24 #[.slice none 0 0, .int .i64 0], cellsR bG 24 #[.slice (some ⟨b1, o1, none⟩) f.ns.length ca, .int .i64 f.root]] → (Instr.lookup 54 (.map (some bm)) (.int .i64 ((on.getD k 0 : Nat) : Int)) true).run Tryz.prog W = .ok (.tuple #[.int .i64 ((on.idxOf (on.getD k 0) : Nat) : Int), .bool true]) W) := fun W h => by
    have h1 := (h.map 1 rfl).run_look_ok KI injN Tryz.underlying54 (zi2 _) (kn (on.getD k 0) (by omega))
    rw [f1] at h1
    exact h1
   have HN2 := Tre.hid f2
   generalize on.idxOf (on.getD k 0) = x at *
   generalize on.getD k 0 = r at *
   have c3 : (Instr.lookup 54 (.map (some bm)) (.int .i64 (r : Int)) true).run Tryz.prog wr.drew = .ok (.tuple #[.int .i64 (x : Int), .bool true]) wr.drew := HLK.out _ HM.out.drew
   clear f1 f2 hmem hr
   go_wp2_with fail
   have cS : Cond (fun w' => w'.cell? ⟨b12, 0, none⟩ = some (.map (some bm)) ∧ w'.cell? ⟨b10, 0, none⟩ = some (.pointer (some ⟨s, 0, none⟩)) ∧ (Instr.lookup 54 (.map (some bm)) (.int .i64 (r : Int)) true).run Tryz.prog w' = .ok (.tuple #[.int .i64 (x : Int), .bool true]) w') := ⟨⟩
   refine cS.keep [] ?_ (fun hH0 => ?_)
   ·exact ⟨c1, c2, c3⟩
   have HQ := Tre.hid HM.out.drew
   generalize hq : World.drew _ = wq0 at HQ hH0 ⊢
   clear hq HM c1 c2 c3
   refine lPq 2 (some 73) (v := ?_) rfl ?_ (keep_of hH0) ?_
   rotate_left
   ·intro w; go_simp <;> with_reducible rfl
   try simp only [Act.put, zqf, zqg, zqh]
   refine lTq 0 (some 71) (v := ?_) rfl ?_ hH0 ?_
   rotate_left
   ·intro w hSw; (try dsimp only at hSw); go_simp <;> with_reducible rfl
   try simp only [Act.put, zqf, zqg, zqh]
   refine lTq 1 (some 72) (v := ?_) rfl ?_ hH0 ?_
   rotate_left
   ·intro w hSw; (try dsimp only at hSw); go_simp <;> with_reducible rfl
   try simp only [Act.put, zqf, zqg, zqh]
   refine lOne 3 (by kernel_rfl) (LStep.op (fun K hK => ?_))
   go_simp
   refine (HFD.out wq0 HQ.out).mono ?_
   rintro e' wq1 ⟨rfl, b1'⟩
   have M1 := HQ.out.quiet b1'
   have t1 : wq1.cell? ⟨b12, 0, none⟩ = some (.map (some bm)) := M1.cell 0 rfl 0 rfl
   have t2 : wq1.cell? ⟨b10, 0, none⟩ = some (.pointer (some ⟨s, 0, none⟩)) := M1.cell 9 rfl 0 rfl
   have t3 : (Instr.lookup 54 (.map (some bm)) (.int .i64 (r : Int)) true).run Tryz.prog wq1 = .ok (.tuple #[.int .i64 (x : Int), .bool true]) wq1 := HLK.out wq1 M1
   have HQ1 := Tre.hid M1
   clear b1' M1
   (try dsimp only)
   refine hK.out _ _ ?_ (fun hH1 => ?_)
   ·exact ⟨t1, t2, t3⟩
   clear hK K hH0
   try simp only [Act.put, zqf, zqg, zqh]
   refine lTq 4 (some 75) (v := ?_) rfl ?_ hH1 ?_
   rotate_left
   ·intro w hSw; (try dsimp only at hSw); go_simp <;> with_reducible rfl
   try simp only [Act.put, zqf, zqg, zqh]
   refine lPq 5 (some 70) (v := ?_) rfl ?_ (keep_of hH1) ?_
   rotate_left
   ·intro w; go_simp <;> with_reducible rfl
   try simp only [Act.put, zqf, zqg, zqh]
   refine lPq 6 (some 76) (v := ?_) rfl ?_ (keep_of hH1) ?_
   rotate_left
   ·intro w; go_simp <;> with_reducible rfl
   try simp only [Act.put, zqf, zqg, zqh]
   refine lPq 7 (some 77) (v := ?_) rfl ?_ (keep_of hH1) ?_
   rotate_left
   ·intro w; go_simp <;> with_reducible rfl
   try simp only [Act.put, zqf, zqg, zqh]
   refine lPq 8 (some 14) (v := ?_) rfl ?_ (keep_of hH1) ?_
   rotate_left
   ·intro w; go_simp <;> with_reducible rfl
   try simp only [Act.put, zqf, zqg, zqh]
   refine lPq 9 (some 15) (v := ?_) rfl ?_ (keep_of hH1) ?_
   rotate_left
   ·intro w; go_simp <;> with_reducible rfl
   try simp only [Act.put, zqf, zqg, zqh]
   refine lDone (by kernel_rfl) ?_
   clear hH1
   clear t1 t2 t3
   go_wp2_with fail
   go_roundw
   case rel => exact ⟨k + 1, cnt, by omega, by go_num, by have h := HQ1.out; rw [← HN2.out] at h; exact h⟩
   case measure => simp [intOf]; omega
  ·obtain ⟨f1, f2⟩ := firstM_new hkl hmem
   rw [hr] at f1 f2
   have HLK : Hid (∀ W : World, Mem w W [cellsR b12 54 #[.map (some bm)], mapR Tryz.prog 3 en en bm cnt (firstM on k), cellsR s 64 #[.slice (some ⟨gO, 0, none⟩) f.ns.length cO, .slice (some ⟨gR, 0, none⟩) f.ns.length cR, .slice (some ⟨gH, 0, none⟩) f.ns.length cH, .slice aW 0 cW], rowR 34 2 (.slice aW 0 cW) 0 [], mapsR cs, rowR 3 1 (.slice (some ⟨gO, 0, none⟩) f.ns.length cO) f.ns.length (on.map en), rowR 3 1 (.slice (some ⟨gR, 0, none⟩) f.ns.length cR) f.ns.length (rank.map en), rowR 72 5 (.slice (some ⟨gH, 0, none⟩) f.ns.length cH) f.ns.length (hasCells cs has), cellsR b11 65 #[.pointer none], cellsR b10 59 #[.pointer (some ⟨s, 0, none⟩)], cellsR b9 34 #[.int .i64 (p1 : Int), .int .i64 (p2 : Int)], cellsR bE 24 #[.slice none 0 0, .int .i64 0], cellsR bG 24 #[.slice (some ⟨b1, o1, none⟩) f.ns.length ca, .int .i64 f.root]] → (Instr.lookup 54 (.map (some bm)) (.int .i64 ((on.getD k 0 : Nat) : Int)) true).run Tryz.prog W = .ok (.tuple #[.int .i64 0, .bool false]) W) := fun W h => by
    have h1 := (h.map 1 rfl).run_look_ok KI injN Tryz.underlying54 (zi2 _) (kn (on.getD k 0) (by omega))
    rw [f1] at h1
    exact h1
   have HN1 := Tre.hid f1
   have HN2 := Tre.hid f2
   generalize on.getD k 0 = r at *
   have c3 : (Instr.lookup 54 (.map (some bm)) (.int .i64 (r : Int)) true).run Tryz.prog wr.drew = .ok (.tuple #[.int .i64 0, .bool false]) wr.drew := HLK.out _ HM.out.drew
   clear f1 f2 hmem hr
   go_wp2_with fail
   have cS : Cond (fun w' => w'.cell? ⟨b12, 0, none⟩ = some (.map (some bm)) ∧ w'.cell? ⟨b10, 0, none⟩ = some (.pointer (some ⟨s, 0, none⟩)) ∧ (Instr.lookup 54 (.map (some bm)) (.int .i64 (r : Int)) true).run Tryz.prog w' = .ok (.tuple #[.int .i64 0, .bool false]) w') := ⟨⟩
   refine cS.keep [] ?_ (fun hH0 => ?_)
   ·exact ⟨c1, c2, c3⟩
   have HQ := Tre.hid HM.out.drew
   generalize hq : World.drew _ = wq0 at HQ hH0 ⊢
   clear hq HM c1 c2 c3
   refine lPq 2 (some 73) (v := ?_) rfl ?_ (keep_of hH0) ?_
   rotate_left
   ·intro w; go_simp <;> with_reducible rfl
   try simp only [Act.put, zqf, zqg, zqh]
   refine lTq 0 (some 71) (v := ?_) rfl ?_ hH0 ?_
   rotate_left
   ·intro w hSw; (try dsimp only at hSw); go_simp <;> with_reducible rfl
   try simp only [Act.put, zqf, zqg, zqh]
   refine lTq 1 (some 72) (v := ?_) rfl ?_ hH0 ?_
   rotate_left
   ·intro w hSw; (try dsimp only at hSw); go_simp <;> with_reducible rfl
   try simp only [Act.put, zqf, zqg, zqh]
   refine lOne 3 (by kernel_rfl) (LStep.op (fun K hK => ?_))
   go_simp
   refine (HFD.out wq0 HQ.out).mono ?_
   rintro e' wq1 ⟨rfl, b1'⟩
   have M1 := HQ.out.quiet b1'
   have t1 : wq1.cell? ⟨b12, 0, none⟩ = some (.map (some bm)) := M1.cell 0 rfl 0 rfl
   have t2 : wq1.cell? ⟨b10, 0, none⟩ = some (.pointer (some ⟨s, 0, none⟩)) := M1.cell 9 rfl 0 rfl
   have t3 : (Instr.lookup 54 (.map (some bm)) (.int .i64 (r : Int)) true).run Tryz.prog wq1 = .ok (.tuple #[.int .i64 0, .bool false]) wq1 := HLK.out wq1 M1
   have HQ1 := Tre.hid M1
   clear b1' M1
   (try dsimp only)
   refine hK.out _ _ ?_ (fun hH1 => ?_)
   ·exact ⟨t1, t2, t3⟩
   clear hK K hH0
   try simp only [Act.put, zqf, zqg, zqh]
   refine lTq 4 (some 75) (v := ?_) rfl ?_ hH1 ?_
   rotate_left
   ·intro w hSw; (try dsimp only at hSw); go_simp <;> with_reducible rfl
   try simp only [Act.put, zqf, zqg, zqh]
   refine lPq 5 (some 70) (v := ?_) rfl ?_ (keep_of hH1) ?_
   rotate_left
   ·intro w; go_simp <;> with_reducible rfl
   try simp only [Act.put, zqf, zqg, zqh]
   refine lPq 6 (some 76) (v := ?_) rfl ?_ (keep_of hH1) ?_
   rotate_left
   ·intro w; go_simp <;> with_reducible rfl
   try simp only [Act.put, zqf, zqg, zqh]
   refine lPq 7 (some 77) (v := ?_) rfl ?_ (keep_of hH1) ?_
   rotate_left
   ·intro w; go_simp <;> with_reducible rfl
   try simp only [Act.put, zqf, zqg, zqh]
   refine lPq 8 (some 14) (v := ?_) rfl ?_ (keep_of hH1) ?_
   rotate_left
   ·intro w; go_simp <;> with_reducible rfl
   try simp only [Act.put, zqf, zqg, zqh]
   refine lPq 9 (some 15) (v := ?_) rfl ?_ (keep_of hH1) ?_
   rotate_left
   ·intro w; go_simp <;> with_reducible rfl
   try simp only [Act.put, zqf, zqg, zqh]
   refine lDone (by kernel_rfl) ?_
   clear hH1
   clear t1 t2 t3
   have d1 : wq1.cell? ⟨b12, 0, none⟩ = some (.map (some bm)) := HQ1.out.cell 0 rfl 0 rfl
   have d2 : wq1.cell? ⟨b10, 0, none⟩ = some (.pointer (some ⟨s, 0, none⟩)) := HQ1.out.cell 9 rfl 0 rfl
   go_wp2_with fail
   have cS : Cond (fun w' => w'.cell? ⟨b12, 0, none⟩ = some (.map (some bm)) ∧ w'.cell? ⟨b10, 0, none⟩ = some (.pointer (some ⟨s, 0, none⟩))) := ⟨⟩
   refine cS.keep [5] ?_ (fun hH0 => ?_)
   ·exact ⟨d1, d2⟩
   have HY := Tre.hid HQ1.out.drew
   generalize hq : World.drew _ = wz0 at HY hH0 ⊢
   clear hq HQ1 d1 d2
   refine lPq 2 (some 82) (v := ?_) rfl ?_ (keep_of hH0) ?_
   rotate_left
   ·intro w; go_simp <;> with_reducible rfl
   try simp only [Act.put, zqf, zqg, zqh]
   refine lPq 4 (some 84) (v := ?_) rfl ?_ (keep_of hH0) ?_
   rotate_left
   ·intro w; go_simp <;> with_reducible rfl
   try simp only [Act.put, zqf, zqg, zqh]
   refine lTq 0 (some 80) (v := ?_) rfl ?_ hH0 ?_
   rotate_left
   ·intro w hSw; (try dsimp only at hSw); go_simp <;> with_reducible rfl
   try simp only [Act.put, zqf, zqg, zqh]
   refine lTq 1 (some 81) (v := ?_) rfl ?_ hH0 ?_
   rotate_left
   ·intro w hSw; (try dsimp only at hSw); go_simp <;> with_reducible rfl
   try simp only [Act.put, zqf, zqg, zqh]
   refine lOne 3 (by kernel_rfl) (LStep.op (fun K hK => ?_))
   go_simp
   refine (HFD.out wz0 HY.out).mono ?_
   rintro e' wz1 ⟨rfl, b1'⟩
   have M1 := HY.out.quiet b1'
   have t1 : wz1.cell? ⟨b12, 0, none⟩ = some (.map (some bm)) := M1.cell 0 rfl 0 rfl
   have t2 : wz1.cell? ⟨b10, 0, none⟩ = some (.pointer (some ⟨s, 0, none⟩)) := M1.cell 9 rfl 0 rfl
   have HY1 := Tre.hid M1
   clear b1' M1
   (try dsimp only)
   refine hK.out _ _ ?_ (fun hH1 => ?_)
   ·exact ⟨t1, t2⟩
   clear hK K hH0
   try simp only [Act.put, zqf, zqg, zqh]
   refine lOne 5 (by kernel_rfl) (LFall.op (by kernel_rfl) (fun K hK => ?_))
   clear t1 t2
   refine wp_store_map _ _ _ 54 (by rfl) 3 KI injN Tryz.underlying54 (by rfl) (HY1.out.map 1 rfl) r (by rfl) (kn r (by omega)) k (by rfl) ?_
   intro wz2 hm9 hg9
   rw [HN1.out, HN2.out] at hm9
   have HM9 := Tre.hid (HY1.out.put 1 rfl hg9 hm9)
   clear hm9 hg9
   refine hK.out _ _ ?_
   clear hK K hH1
   try simp only [Act.put, zqf]
   refine lDone (by kernel_rfl) ?_
   go_wp2_with fail
   go_roundw
   case rel => exact ⟨k + 1, _, by omega, by go_num, HM9.out⟩
   case measure => simp [intOf]; omega
 ·have e : k = on.length := by rw [HS.out.lon]; omega
  subst e
  have hno : ¬ ((on.length : Int) < (f.ns.length : Int)) := by rw [HS.out.lon]; omega
  have HLE : Hid (∀ (a : Nat) (W : World) (L : List Res) (iZ iP iS iO iT : Nat), a < f.ns.length → Mem w W L → L[iZ]? = some (cellsR b12 54 #[.map (some bm)]) → L[iP]? = some (mapR Tryz.prog 3 en en bm cnt (firstM on on.length)) → L[iS]? = some (cellsR s 64 #[.slice (some ⟨gO, 0, none⟩) f.ns.length cO, .slice (some ⟨gR, 0, none⟩) f.ns.length cR, .slice (some ⟨gH, 0, none⟩) f.ns.length cH, .slice aW 0 cW]) → L[iO]? = some (rowR 3 1 (.slice (some ⟨gO, 0, none⟩) f.ns.length cO) f.ns.length (on.map en)) → L[iT]? = some (cellsR b10 59 #[.pointer (some ⟨s, 0, none⟩)]) →
    Calls Tryz.prog 28 #[.int .i64 (a : Int), .pointer (some ⟨b12, 0, none⟩), .pointer (some ⟨b10, 0, none⟩)] W fun e w' => e = .returned (.int .i64 ((leastF on a : Nat) : Int)) ∧ Below W.heap.size W w') := fun a W L iZ iP iS iO iT ha h h1 h2 h3 h4 h5 =>
   least_any b12 b10 s gO cO bm cnt on a W (h.cell iZ h1 0 rfl) (h.cell iT h5 0 rfl) (onAt2 HS.out h iS iO h3 h4) (h.map iP h2) (by rw [HS.out.lon]; exact ha) (by rw [HS.out.lon]; omega)
  obtain ⟨rt, hrt⟩ : ∃ rt : Nat, f.root.toNat = rt := ⟨_, rfl⟩
  have HRTN := Tre.hid hrt
  have g1 : wr.cell? ⟨bG, 1, none⟩ = some (.int .i64 (rt : Int)) := by rw [← hrt, ← HR0.out]; exact HM.out.cell 12 rfl 1 rfl
  clear hrt
  have hcf := hcf1
  have HM9 := Tre.hid HM.out
  clear HM
  go_wp2_with fail
  refine (HLE.out rt wr _ 0 1 2 5 9 (by rw [← HRTN.out]; exact HRT.out) HM9.out rfl rfl rfl rfl rfl).mono ?_
  rintro e w10 ⟨rfl, bb⟩
  have M10 := (HM9.out.quiet bb).allocR #[.slice none 0 0, .int .i64 ((leastF on rt : Nat) : Int)] 24
  generalize hz2 : w10.heap.size = b17 at M10 ⊢
  have g0 : (w10.alloc (.cells #[.slice none 0 0, .int .i64 ((leastF on rt : Nat) : Int)] 24)).cell? ⟨bG, 0, none⟩ = some (.slice (some ⟨b1, o1, none⟩) f.ns.length ca) := M10.cell 13 rfl 0 rfl
  have HM10 := Tre.hid ((((M10.addNil 3 1).addMany).addNil 40 5).front 3 rfl)
  clear M10 bb HM9 g1
  go_wp2_with fail
  generalize hww : World.alloc _ _ = w11 at HM10 g0 ⊢
  clear hz2 hww g0 hno hlt hk
  obtain ⟨wo, hwo⟩ : ∃ wo : World, wo = wr := ⟨_, rfl⟩
  clear hwo
  obtain ⟨ji, K1, K2, K3, K4⟩ := info_parts infoI
  have L1 := Tre.hid K1
  have L2 := Tre.hid K2
  have L3 := Tre.hid K3
  have L4 := Tre.hid K4
  obtain ⟨ni, I1, I2, I3, I4⟩ := info_parts infoN
  have J1 := Tre.hid I1
  have J2 := Tre.hid I2
  have J3 := Tre.hid I3
  have J4 := Tre.hid I4
  clear K1 K2 K3 K4 I1 I2 I3 I4
  go_loopw [18, 95] (fun v18 v95 wr => ∃ (k : Nat) (aN : Option Addr) (cN : Nat) (aP : Option Addr) (cP : Nat) (ds : List NodeV) (xs : List Value), k ≤ f.ns.length ∧ v95 = .int .i64 k ∧ v18 = .slice aP k cP ∧ Hid (ds.length = k) ∧ Hid (ds.map NodeV.n = (unifG f on has).ns.take k) ∧ Hid (Mem w wr [cellsR b17 24 #[.slice aN ds.length cN, .int .i64 ((leastF on rt : Nat) : Int)], nodesR (.slice aN ds.length cN) ds, kidsR ds, rowR 3 1 (.slice aP k cP) k xs, cellsR b12 54 #[.map (some bm)], mapR Tryz.prog 3 en en bm cnt (firstM on on.length), cellsR s 64 #[.slice (some ⟨gO, 0, none⟩) f.ns.length cO, .slice (some ⟨gR, 0, none⟩) f.ns.length cR, .slice (some ⟨gH, 0, none⟩) f.ns.length cH, .slice aW 0 cW], rowR 34 2 (.slice aW 0 cW) 0 [], mapsR cs, rowR 3 1 (.slice (some ⟨gO, 0, none⟩) f.ns.length cO) f.ns.length (on.map en), rowR 3 1 (.slice (some ⟨gR, 0, none⟩) f.ns.length cR) f.ns.length (rank.map en), rowR 72 5 (.slice (some ⟨gH, 0, none⟩) f.ns.length cH) f.ns.length (hasCells cs has), cellsR b11 65 #[.pointer none], cellsR b10 59 #[.pointer (some ⟨s, 0, none⟩)], cellsR b9 34 #[.int .i64 (p1 : Int), .int .i64 (p2 : Int)], cellsR bE 24 #[.slice none 0 0, .int .i64 0], cellsR bG 24 #[.slice (some ⟨b1, o1, none⟩) f.ns.length ca, .int .i64 f.root]]))
   (fun _ v95 _ => f.ns.length - (intOf v95).toNat)
  case atStart => exact ⟨0, none, 0, none, 0, [], [], Nat.zero_le _, rfl, rfl, rfl, rfl, HM10.out⟩
  case round =>
  clear HM10
  obtain ⟨k, aN, cN, aP, cP, ds, xs, hk, rfl, rfl, hdl, HDS, HM⟩ := hrel
  have HDL := Tre.hid hdl
  rw [nodesR_len hdl, hdl] at HM
  clear hdl
  by_cases hlt : k < f.ns.length
  ·have i1 : (k : Int) < (f.ns.length : Int) := by omega
   have hkl : k < on.length := by rw [HS.out.lon]; exact hlt
   have HFD : Hid (∀ W : World, Mem w W [cellsR b17 24 #[.slice aN k cN, .int .i64 ((leastF on rt : Nat) : Int)], rowR 40 5 (.slice aN k cN) k (ds.flatMap NodeV.cells), kidsR ds, rowR 3 1 (.slice aP k cP) k xs, cellsR b12 54 #[.map (some bm)], mapR Tryz.prog 3 en en bm cnt (firstM on on.length), cellsR s 64 #[.slice (some ⟨gO, 0, none⟩) f.ns.length cO, .slice (some ⟨gR, 0, none⟩) f.ns.length cR, .slice (some ⟨gH, 0, none⟩) f.ns.length cH, .slice aW 0 cW], rowR 34 2 (.slice aW 0 cW) 0 [], mapsR cs, rowR 3 1 (.slice (some ⟨gO, 0, none⟩) f.ns.length cO) f.ns.length (on.map en), rowR 3 1 (.slice (some ⟨gR, 0, none⟩) f.ns.length cR) f.ns.length (rank.map en), rowR 72 5 (.slice (some ⟨gH, 0, none⟩) f.ns.length cH) f.ns.length (hasCells cs has), cellsR b11 65 #[.pointer none], cellsR b10 59 #[.pointer (some ⟨s, 0, none⟩)], cellsR b9 34 #[.int .i64 (p1 : Int), .int .i64 (p2 : Int)], cellsR bE 24 #[.slice none 0 0, .int .i64 0], cellsR bG 24 #[.slice (some ⟨b1, o1, none⟩) f.ns.length ca, .int .i64 f.root]] → Calls Tryz.prog 27 #[.pointer (some ⟨s, 0, none⟩), .int .i64 (k : Int)] W fun e w' => e = .returned (.int .i64 ((on.getD k 0 : Nat) : Int)) ∧ Below W.heap.size W w') := fun W h => find_any s gO cO on k W (onAt2 HS.out h 6 9 rfl rfl) hkl (by rw [HS.out.lon]; omega)
   have hrl := HS.out.on_lt k hlt
   have hml := HS.out.has_lt _ hrl
   have HTK : Hid ((unifG f on has).ns.take (k + 1) = (unifG f on has).ns.take k ++ [clsNode (leastF on) (f.nd (has.getD (on.getD k 0) 0))]) := by
    have h := take_map_succ (fun i => clsNode (leastF on) (f.nd (has.getD (on.getD i 0) 0))) (l := List.range f.ns.length) (k := k) (by rw [List.length_range]; exact hlt)
    rw [List.getElem_range] at h
    exact h
   have hcells : ∀ j, j < 5 → (hasCells cs has)[on.getD k 0 * 5 + j]? = (cs.getD (has.getD (on.getD k 0) 0) zeroC).cells[j]? := fun j hj => hasCells_at cs has _ j (by rw [HS.out.lhas]; exact hrl) hj
   have HKD : Hid (∀ a ∈ f.kids (has.getD (on.getD k 0) 0), a < f.ns.length) := (Graph.ok_of HC0.out).kids_lt hml
   generalize on.getD k 0 = r at *
   generalize has.getD r 0 = m at *
   have HND : Hid (∀ (W : World), Mem w W [mapsR cs, cellsR b17 24 #[.slice aN k cN, .int .i64 ((leastF on rt : Nat) : Int)], rowR 40 5 (.slice aN k cN) k (ds.flatMap NodeV.cells), kidsR ds, rowR 3 1 (.slice aP k cP) k xs, cellsR b12 54 #[.map (some bm)], mapR Tryz.prog 3 en en bm cnt (firstM on on.length), cellsR s 64 #[.slice (some ⟨gO, 0, none⟩) f.ns.length cO, .slice (some ⟨gR, 0, none⟩) f.ns.length cR, .slice (some ⟨gH, 0, none⟩) f.ns.length cH, .slice aW 0 cW], rowR 34 2 (.slice aW 0 cW) 0 [], rowR 3 1 (.slice (some ⟨gO, 0, none⟩) f.ns.length cO) f.ns.length (on.map en), rowR 3 1 (.slice (some ⟨gR, 0, none⟩) f.ns.length cR) f.ns.length (rank.map en), rowR 72 5 (.slice (some ⟨gH, 0, none⟩) f.ns.length cH) f.ns.length (hasCells cs has), cellsR b11 65 #[.pointer none], cellsR b10 59 #[.pointer (some ⟨s, 0, none⟩)], cellsR b9 34 #[.int .i64 (p1 : Int), .int .i64 (p2 : Int)], cellsR bE 24 #[.slice none 0 0, .int .i64 0], cellsR bG 24 #[.slice (some ⟨b1, o1, none⟩) f.ns.length ca, .int .i64 f.root]] → Calls Tryz.prog 29 #[aggC (cs.getD m zeroC), leastV b12 b10] W fun e w' => ∃ (d : NodeV) (a1 : Option Addr) (c1 : Nat) (a2 : Option Addr) (c2 : Nat), d = ⟨clsNode (leastF on) (f.nd m), .slice a1 d.n.args.length c1, .slice a2 d.n.labels.length c2⟩ ∧ e = .returned (.agg #[.int .i64 d.n.kind, .string d.n.name, .slice a1 d.n.args.length c1, .slice a2 d.n.labels.length c2, .bool d.n.isOpen]) ∧
    Mem w w' (rowR 3 1 (.slice a1 d.n.args.length c1) d.n.args.length (d.n.args.map (Value.int .i64)) :: rowR 9 1 (.slice a2 d.n.labels.length c2) d.n.labels.length (d.n.labels.map Value.string) :: [mapsR cs, cellsR b17 24 #[.slice aN k cN, .int .i64 ((leastF on rt : Nat) : Int)], rowR 40 5 (.slice aN k cN) k (ds.flatMap NodeV.cells), kidsR ds, rowR 3 1 (.slice aP k cP) k xs, cellsR b12 54 #[.map (some bm)], mapR Tryz.prog 3 en en bm cnt (firstM on on.length), cellsR s 64 #[.slice (some ⟨gO, 0, none⟩) f.ns.length cO, .slice (some ⟨gR, 0, none⟩) f.ns.length cR, .slice (some ⟨gH, 0, none⟩) f.ns.length cH, .slice aW 0 cW], rowR 34 2 (.slice aW 0 cW) 0 [], rowR 3 1 (.slice (some ⟨gO, 0, none⟩) f.ns.length cO) f.ns.length (on.map en), rowR 3 1 (.slice (some ⟨gR, 0, none⟩) f.ns.length cR) f.ns.length (rank.map en), rowR 72 5 (.slice (some ⟨gH, 0, none⟩) f.ns.length cH) f.ns.length (hasCells cs has), cellsR b11 65 #[.pointer none], cellsR b10 59 #[.pointer (some ⟨s, 0, none⟩)], cellsR b9 34 #[.int .i64 (p1 : Int), .int .i64 (p2 : Int)], cellsR bE 24 #[.slice none 0 0, .int .i64 0], cellsR bG 24 #[.slice (some ⟨b1, o1, none⟩) f.ns.length ca, .int .i64 f.root]])) := fun W h =>
    node_any b12 b10 f cs on m hml w W _ HSO.out HKD.out (fun a W' ha hW' => HLE.out a W' _ 5 6 7 9 13 ha hW' rfl rfl rfl rfl rfl) h
   generalize cs.getD m zeroC = cM at *
   have Y0 : Hid ((hasCells cs has)[r * 5]? = some (.int .i64 cM.n.kind)) := hcells 0 (by omega)
   have Y1 : Hid ((hasCells cs has)[r * 5 + 1]? = some (.string cM.n.name)) := hcells 1 (by omega)
   have Y2 : Hid ((hasCells cs has)[r * 5 + 2]? = some (.slice cM.aa cM.na cM.ca)) := hcells 2 (by omega)
   have Y3 : Hid ((hasCells cs has)[r * 5 + 3]? = some (.map cM.mf)) := hcells 3 (by omega)
   have Y4 : Hid ((hasCells cs has)[r * 5 + 4]? = some (.bool cM.n.isOpen)) := hcells 4 (by omega)
   have h0 : wr.cell? ⟨b17, 0, none⟩ = some (.slice aN k cN) := HM.out.cell 0 rfl 0 rfl
   have h1 : wr.cell? ⟨b10, 0, none⟩ = some (.pointer (some ⟨s, 0, none⟩)) := HM.out.cell 13 rfl 0 rfl
   have h2 : wr.cell? ⟨s, 2, none⟩ = some (.slice (some ⟨gH, 0, none⟩) f.ns.length cH) := HM.out.cell 6 rfl 2 rfl
   have q0 : wr.cell? ⟨gH, r * 5, none⟩ = some (.int .i64 cM.n.kind) := HM.out.cellAt 11 rfl _ Y0.out
   have q1 : wr.cell? ⟨gH, r * 5 + 1, none⟩ = some (.string cM.n.name) := HM.out.cellAt 11 rfl _ Y1.out
   have q2 : wr.cell? ⟨gH, r * 5 + 2, none⟩ = some (.slice cM.aa cM.na cM.ca) := HM.out.cellAt 11 rfl _ Y2.out
   have q3 : wr.cell? ⟨gH, r * 5 + 3, none⟩ = some (.map cM.mf) := HM.out.cellAt 11 rfl _ Y3.out
   have q4 : wr.cell? ⟨gH, r * 5 + 4, none⟩ = some (.bool cM.n.isOpen) := HM.out.cellAt 11 rfl _ Y4.out
   have i2 : (r : Int) < (f.ns.length : Int) := by omega
   clear hcells
   go_wp2_with fail
   have cS : Cond (fun w' => w'.cell? ⟨b17, 0, none⟩ = some (.slice aN k cN) ∧ w'.cell? ⟨b10, 0, none⟩ = some (.pointer (some ⟨s, 0, none⟩)) ∧ w'.cell? ⟨s, 2, none⟩ = some (.slice (some ⟨gH, 0, none⟩) f.ns.length cH) ∧ w'.cell? ⟨gH, r * 5, none⟩ = some (.int .i64 cM.n.kind) ∧ w'.cell? ⟨gH, r * 5 + 1, none⟩ = some (.string cM.n.name) ∧ w'.cell? ⟨gH, r * 5 + 2, none⟩ = some (.slice cM.aa cM.na cM.ca) ∧ w'.cell? ⟨gH, r * 5 + 3, none⟩ = some (.map cM.mf) ∧ w'.cell? ⟨gH, r * 5 + 4, none⟩ = some (.bool cM.n.isOpen)) := ⟨⟩
   refine cS.keep [14, 16] ?_ (fun hH0 => ?_)
   ·exact ⟨h0, h1, h2, q0, q1, q2, q3, q4⟩
   have HQ := Tre.hid HM.out.drew
   generalize hq : World.drew _ = wq0 at HQ hH0 ⊢
   clear hq HM h0 h1 h2 q0 q1 q2 q3 q4
   refine lPq 0 (some 98) (v := ?_) rfl ?_ (keep_of hH0) ?_
   rotate_left
   ·intro w; go_simp <;> with_reducible rfl
   try simp only [Act.put, zqf, zqg, zqh]
   refine lPq 7 (some 105) (v := ?_) rfl ?_ (keep_of hH0) ?_
   rotate_left
   ·intro w; go_simp <;> with_reducible rfl
   try simp only [Act.put, zqf, zqg, zqh]
   refine lPq 11 (some 109) (v := ?_) rfl ?_ (keep_of hH0) ?_
   rotate_left
   ·intro w; go_simp <;> with_reducible rfl
   try simp only [Act.put, zqf, zqg, zqh]
   refine lTq 1 (some 99) (v := ?_) rfl ?_ hH0 ?_
   rotate_left
   ·intro w hSw; (try dsimp only at hSw); go_simp <;> with_reducible rfl
   try simp only [Act.put, zqf, zqg, zqh]
   refine lTq 2 (some 100) (v := ?_) rfl ?_ hH0 ?_
   rotate_left
   ·intro w hSw; (try dsimp only at hSw); go_simp <;> with_reducible rfl
   try simp only [Act.put, zqf, zqg, zqh]
   refine lPq 3 (some 101) (v := ?_) rfl ?_ (keep_of hH0) ?_
   rotate_left
   ·intro w; go_simp <;> with_reducible rfl
   try simp only [Act.put, zqf, zqg, zqh]
   refine lPq 4 (some 102) (v := ?_) rfl ?_ (keep_of hH0) ?_
   rotate_left
   ·intro w; go_simp <;> with_reducible rfl
   try simp only [Act.put, zqf, zqg, zqh]
   refine lTq 5 (some 103) (v := ?_) rfl ?_ hH0 ?_
   rotate_left
   ·intro w hSw; (try dsimp only at hSw); go_simp <;> with_reducible rfl
   try simp only [Act.put, zqf, zqg, zqh]
   refine lTq 6 (some 104) (v := ?_) rfl ?_ hH0 ?_
   rotate_left
   ·intro w hSw; (try dsimp only at hSw); go_simp <;> with_reducible rfl
   try simp only [Act.put, zqf, zqg, zqh]
   refine lOne 8 (by kernel_rfl) (LStep.op (fun K hK => ?_))
   go_simp
   refine (HFD.out wq0 HQ.out).mono ?_
   rintro e' wq1 ⟨rfl, b1'⟩
   have M1 := HQ.out.quiet b1'
   have t0 : wq1.cell? ⟨b17, 0, none⟩ = some (.slice aN k cN) := M1.cell 0 rfl 0 rfl
   have t1 : wq1.cell? ⟨b10, 0, none⟩ = some (.pointer (some ⟨s, 0, none⟩)) := M1.cell 13 rfl 0 rfl
   have t2 : wq1.cell? ⟨s, 2, none⟩ = some (.slice (some ⟨gH, 0, none⟩) f.ns.length cH) := M1.cell 6 rfl 2 rfl
   have u0 : wq1.cell? ⟨gH, r * 5, none⟩ = some (.int .i64 cM.n.kind) := M1.cellAt 11 rfl _ Y0.out
   have u1 : wq1.cell? ⟨gH, r * 5 + 1, none⟩ = some (.string cM.n.name) := M1.cellAt 11 rfl _ Y1.out
   have u2 : wq1.cell? ⟨gH, r * 5 + 2, none⟩ = some (.slice cM.aa cM.na cM.ca) := M1.cellAt 11 rfl _ Y2.out
   have u3 : wq1.cell? ⟨gH, r * 5 + 3, none⟩ = some (.map cM.mf) := M1.cellAt 11 rfl _ Y3.out
   have u4 : wq1.cell? ⟨gH, r * 5 + 4, none⟩ = some (.bool cM.n.isOpen) := M1.cellAt 11 rfl _ Y4.out
   have HQ1 := Tre.hid M1
   clear b1' M1
   (try dsimp only)
   refine hK.out _ _ ?_ (fun hH1 => ?_)
   ·exact ⟨t0, t1, t2, u0, u1, u2, u3, u4⟩
   clear hK K hH0
   try simp only [Act.put, zqf, zqg, zqh]
   refine lPq 9 (some 107) (v := ?_) rfl ?_ (keep_of hH1) ?_
   rotate_left
   ·intro w; go_simp <;> with_reducible rfl
   try simp only [Act.put, zqf, zqg, zqh]
   refine lTq 10 (some 108) (v := ?_) rfl ?_ hH1 ?_
   rotate_left
   ·intro w hSw; (try dsimp only at hSw); go_simp <;> with_reducible rfl
   try simp only [Act.put, zqf, zqg, zqh]
   refine lOne 12 (by kernel_rfl) (LStep.op (fun K hK => ?_))
   go_simp
   clear t0 t1 t2 u0 u1 u2 u3 u4
   refine (HND.out wq1 (HQ1.out.front 8 rfl)).mono ?_
   rintro e' wq2 ⟨d, a1, c1, a2, c2, hd, rfl, M1⟩
   have t0 : wq2.cell? ⟨b17, 0, none⟩ = some (.slice aN k cN) := M1.cell 3 rfl 0 rfl
   have t1 : wq2.cell? ⟨b10, 0, none⟩ = some (.pointer (some ⟨s, 0, none⟩)) := M1.cell 15 rfl 0 rfl
   have t2 : wq2.cell? ⟨s, 2, none⟩ = some (.slice (some ⟨gH, 0, none⟩) f.ns.length cH) := M1.cell 9 rfl 2 rfl
   have u0 : wq2.cell? ⟨gH, r * 5, none⟩ = some (.int .i64 cM.n.kind) := M1.cellAt 13 rfl _ Y0.out
   have u1 : wq2.cell? ⟨gH, r * 5 + 1, none⟩ = some (.string cM.n.name) := M1.cellAt 13 rfl _ Y1.out
   have u2 : wq2.cell? ⟨gH, r * 5 + 2, none⟩ = some (.slice cM.aa cM.na cM.ca) := M1.cellAt 13 rfl _ Y2.out
   have u3 : wq2.cell? ⟨gH, r * 5 + 3, none⟩ = some (.map cM.mf) := M1.cellAt 13 rfl _ Y3.out
   have u4 : wq2.cell? ⟨gH, r * 5 + 4, none⟩ = some (.bool cM.n.isOpen) := M1.cellAt 13 rfl _ Y4.out
   have HD := Tre.hid hd
   have HQ2 := Tre.hid M1
   clear hd M1
   (try dsimp only)
   refine hK.out _ _ ?_ (fun hH2 => ?_)
   ·exact ⟨t0, t1, t2, u0, u1, u2, u3, u4⟩
   clear hK K hH1
   try simp only [Act.put, zqf, zqg, zqh]
   refine lOne 13 (by kernel_rfl) (LStep.op (fun K hK => ?_))
   clear t0 t1 t2 u0 u1 u2 u3 u4
   have MA := HQ2.out.allocRow #[.int .i64 d.n.kind, .string d.n.name, .slice a1 d.n.args.length c1, .slice a2 d.n.labels.length c2, .bool d.n.isOpen] 40 5 1 (by unfold maxLen; omega) rfl
   go_simp
   generalize hnb : wq2.heap.size = nb at MA ⊢
   generalize hw : wq2.alloc (.cells #[.int .i64 d.n.kind, .string d.n.name, .slice a1 d.n.args.length c1, .slice a2 d.n.labels.length c2, .bool d.n.isOpen] 40) = wq3 at MA ⊢
   have t0 : wq3.cell? ⟨b17, 0, none⟩ = some (.slice aN k cN) := MA.cell 4 rfl 0 rfl
   have t1 : wq3.cell? ⟨b10, 0, none⟩ = some (.pointer (some ⟨s, 0, none⟩)) := MA.cell 16 rfl 0 rfl
   have t2 : wq3.cell? ⟨s, 2, none⟩ = some (.slice (some ⟨gH, 0, none⟩) f.ns.length cH) := MA.cell 10 rfl 2 rfl
   have u0 : wq3.cell? ⟨gH, r * 5, none⟩ = some (.int .i64 cM.n.kind) := MA.cellAt 14 rfl _ Y0.out
   have u1 : wq3.cell? ⟨gH, r * 5 + 1, none⟩ = some (.string cM.n.name) := MA.cellAt 14 rfl _ Y1.out
   have u2 : wq3.cell? ⟨gH, r * 5 + 2, none⟩ = some (.slice cM.aa cM.na cM.ca) := MA.cellAt 14 rfl _ Y2.out
   have u3 : wq3.cell? ⟨gH, r * 5 + 3, none⟩ = some (.map cM.mf) := MA.cellAt 14 rfl _ Y3.out
   have u4 : wq3.cell? ⟨gH, r * 5 + 4, none⟩ = some (.bool cM.n.isOpen) := MA.cellAt 14 rfl _ Y4.out
   have HQ3 := Tre.hid MA
   clear MA hnb hw
   refine hK.out _ _ ?_ (fun hH3 => ?_)
   ·exact ⟨t0, t1, t2, u0, u1, u2, u3, u4⟩
   clear hK K hH2
   try simp only [Act.put, zqf, zqg, zqh]
   refine lOne 14 (by kernel_rfl) (LFall.op (by kernel_rfl) (fun K hK => ?_))
   clear t0 t1 t2 u0 u1 u2 u3 u4
   refine wp_append_row _ _ _ 22 (by rfl) 40 ni _ 5 80 Tryz.underlying22 J1.out J2.out J3.out J4.out rfl (by omega) (.slice aN k cN) k (ds.flatMap NodeV.cells) (by rfl) (HQ3.out.row 5 rfl) (some ⟨nb, 0, none⟩) 1 1 [.int .i64 d.n.kind, .string d.n.name, .slice a1 d.n.args.length c1, .slice a2 d.n.labels.length c2, .bool d.n.isOpen] (by rfl) ⟨rfl, fun j u hj => ⟨_, 0, rfl, by rw [Nat.zero_add]; exact HQ3.out.cellAt 0 rfl j hj⟩⟩ (by simp [Value.oneCell']) (by unfold maxLen; omega) (by omega) ?_
   intro v' wq4 hown4 hgrow4 hat4
   have M4 := HQ3.out.grow 5 rfl hgrow4 hown4 hat4
   obtain ⟨a4, c4, rfl, _⟩ := M4.val 5 rfl
   have HQ4 := Tre.hid (M4.del 0)
   clear M4 hown4 hgrow4 hat4
   refine hK.out _ _ ?_
   clear hK K hH3
   try simp only [Act.put, zqf]
   refine lPq 15 (some 113) (v := ?_) rfl ?_ (keep_fell (by kernel_rfl)) ?_
   rotate_left
   ·intro w; go_simp <;> with_reducible rfl
   try simp only [Act.put]
   refine lOne 16 (by kernel_rfl) (LFall.op (by kernel_rfl) (fun K hK => ?_))
   have g0 : wq4.cell? ⟨b17, 0, none⟩ = some (.slice aN k cN) := HQ4.out.cell 3 rfl 0 rfl
   have f0 := HQ4.out.free 3 rfl 0
   have H9 := HQ4.out.setCell 3 rfl 0 (.slice a4 (k + 1) c4)
   go_simp
   generalize hw : wq4.setCell ⟨b17, 0, none⟩ _ = wq5 at H9 ⊢
   have HQ5 := Tre.hid H9
   have HM9 := Tre.hid ((((((((((((HQ5.out.front 2 rfl).front 10 rfl).front 10 rfl).front 10 rfl).front 10 rfl).front 10 rfl).front 8 rfl).front 10 rfl).front 10 rfl).front 10 rfl).front 10 rfl).push2b)
   clear H9 hw g0 f0 HQ5
   refine hK.out _ _ ?_
   clear hK K
   try simp only [Act.put, zqf, zqg, zqh]
   refine lDone (by kernel_rfl) ?_
   go_wp2_with fail
   refine (HLE.out k wq5 _ 4 5 6 9 13 hlt HM9.out rfl rfl rfl rfl rfl).mono ?_
   rintro e' wq6 ⟨rfl, b6⟩
   have MB := Tre.hid ((HM9.out.quiet b6).allocRow #[.int .i64 ((leastF on k : Nat) : Int)] 3 1 1 (by unfold maxLen; omega) rfl)
   clear b6 HM9
   go_wp2_with (at_builtin; refine wpList_append_row _ rfl _ _ 31 rfl 3 ji _ 1 8 Tryz.underlying31 L1.out L2.out L3.out L4.out rfl (by omega) (.slice aP k cP) k xs rfl (MB.out.row 4 rfl) (some ⟨wq6.heap.size, 0, none⟩) 1 1 [.int .i64 ((leastF on k : Nat) : Int)] rfl ⟨rfl, fun j u hj => ⟨_, 0, rfl, by rw [Nat.zero_add]; exact MB.out.cellAt 0 rfl j hj⟩⟩ (by simp [Value.oneCell']) (by unfold maxLen; omega) (by omega) ?_; intro v' w9 hown4 hgrow4 hat4; have M4 := MB.out.grow 4 rfl hgrow4 hown4 hat4; obtain ⟨a5, c5, rfl, _⟩ := M4.val 4 rfl; have HM8 := Tre.hid (M4.del 0); clear M4 hown4 hgrow4 hat4)
   go_roundw
   case rel =>
    refine ⟨k + 1, a4, c4, a5, c5, ds ++ [d], xs ++ [.int .i64 ((leastF on k : Nat) : Int)], by omega, by go_num, rfl, (by show _ = _; rw [List.length_append, HDL.out]; rfl), ?_, ?_⟩
    ·show _ = _
     rw [List.map_append, HDS.out, HTK.out, List.map_singleton, HD.out]
    ·have h := (((HM8.out.front 1 rfl).front 1 rfl).front 2 rfl)
     have e1 : (ds ++ [d]).length = k + 1 := by rw [List.length_append, HDL.out]; rfl
     show Mem _ _ _
     rw [nodesR_snoc, kidsR_snoc, e1, HDL.out]
     have hva : d.va = .slice a1 d.n.args.length c1 := congrArg NodeV.va HD.out
     have hvl : d.vl = .slice a2 d.n.labels.length c2 := congrArg NodeV.vl HD.out
     have hdc : d.cells = [.int .i64 d.n.kind, .string d.n.name, .slice a1 d.n.args.length c1, .slice a2 d.n.labels.length c2, .bool d.n.isOpen] := by unfold NodeV.cells; rw [hva, hvl]
     have hdk : kids d = [rowR 3 1 (.slice a1 d.n.args.length c1) d.n.args.length (d.n.args.map (Value.int .i64)), rowR 9 1 (.slice a2 d.n.labels.length c2) d.n.labels.length (d.n.labels.map Value.string)] := by unfold kids; rw [hva, hvl]
     rw [hdc, hdk]
     exact h
   case measure => simp [intOf]; omega
  ·have e : k = f.ns.length := by omega
   subst e
   have HDL2 := HDL.out
   have h17 := HM.out
   have HDN : Hid (ds.map NodeV.n = (unifG f on has).ns) := by have h := HDS.out; rw [List.take_of_length_le (by rw [unif_len]; exact Nat.le_refl _)] at h; exact h
   have HRR : Hid ((unifG f on has).root = (rt : Int) ∨ True) := .inr trivial
   have HRU : Hid ((unifG f on has).root = ((leastF on rt : Nat) : Int)) := by show ((leastF on f.root.toNat : Nat) : Int) = _; rw [HRTN.out]
   obtain ⟨x0, x1⟩ := h17.two 0 rfl
   obtain ⟨y0, y1⟩ := h17.two 15 rfl
   have e0 := h17.free 15 rfl 0
   have e1 := h17.free 15 rfl 1
   have HE := Tre.hid ((h17.setCell 15 rfl 0 (.slice aN f.ns.length cN)).setCell 15 rfl 1 (.int .i64 ((leastF on rt : Nat) : Int)))
   clear h17 HM HDL2 HRR
   go_wp2_with fail
   have z0 : ((wr.setCell ⟨bE, 0, none⟩ (.slice aN f.ns.length cN)).setCell ⟨bE, 1, none⟩ (.int .i64 ((leastF on rt : Nat) : Int))).cell? ⟨bE, 0, none⟩ = some (.slice aN f.ns.length cN) := HE.out.cell 15 rfl 0 rfl
   have z1 : ((wr.setCell ⟨bE, 0, none⟩ (.slice aN f.ns.length cN)).setCell ⟨bE, 1, none⟩ (.int .i64 ((leastF on rt : Nat) : Int))).cell? ⟨bE, 1, none⟩ = some (.int .i64 ((leastF on rt : Nat) : Int)) := HE.out.cell 15 rfl 1 rfl
   refine bodyPost_ret (v := .tuple #[.agg #[.slice aN f.ns.length cN, .int .i64 ((leastF on rt : Nat) : Int)], .slice aP f.ns.length cP, .int .i64 0]) (by simp [results, Tryz.results8, go_sem, z0, z1]) rfl ⟨on, rank, has, aN, cN, .slice aP f.ns.length cP, ds, ?_, HS.out, HDN.out, ?_⟩
   ·rw [HRU.out, HDL.out]
   ·have h := HE.out.sub (by exact (List.Sublist.cons _ (List.Sublist.cons_cons _ (List.Sublist.cons_cons _ (List.nil_sublist _)))))
    rw [nodesR_len HDL.out, HDL.out]
    exact h
end Go.Proofs.YtlkfhbmjemjohaaGreatDoor.sol
