/- gen.Fresh, where it comes to no error. Great: how much a graph is. -/
import Derived.Test.YtlkfhbmjemjohaaGreatDoorB21
import Derived.Deep.DeepCutAuto
import Derived.Test.YtlkfhbmjemjohaaGreatDoorB00
set_option linter.unusedVariables false
namespace Go.Proofs.YtlkfhbmjemjohaaGreatDoor.gr
open Go.RowKit Go.Shelf Go.Maps Go.Tre lex
theorem kept_copies (g : Tre.Graph) (mono : List Nat) : keptOf (fun z => !(g.leadB (g.genericL mono) z.toNat)) g.reachL g.reachL.length = g.copiesL mono := by
 unfold keptOf Graph.copiesL
 rw [List.take_length]
 congr 1
 funext x
 simp

set_option maxRecDepth 100000 in
set_option maxHeartbeats 16000000 in
theorem fresh_ok (a : Option Addr) (ca : Nat) (g : Tre.Graph) (am : Option Addr) (cm : Nat) (mono : List Nat) (w : World) (hg : NodesAt w a g.ns) (c0 : g.checkC = 0) (wg : g.weight ≤ 2097152) (hl : IntsAt w am (mono.map fun k : Nat => (k : Int))) (hm : ∀ m ∈ mono, m < g.ns.length) (hll : mono.length ≤ 2097152) (hx : MaxAt w)
  (hs : g.ns.length + (g.copiesL mono).length ≤ 1048576) :
  Calls Tryz.prog 7 #[.agg #[.slice a g.ns.length ca, .int .i64 g.root], .slice am mono.length cm] w fun e w' =>
   ∃ vN ds, e = .returned (.tuple #[.agg #[vN, .int .i64 (g.freshG mono).root], .int .i64 0]) ∧ ds.map NodeV.n = (g.freshG mono).ns ∧ Mem w w' [nodesR vN ds, kidsR ds] := by
 have M := ((Mem.nil w).allocR #[.slice a g.ns.length ca, .int .i64 g.root] 24).allocR #[.slice none 0 0, .int .i64 0] 24
 rw [heapSize_alloc] at M
 have HG := Tre.hid hg
 have HL := Tre.hid hl
 have HM0 := Tre.hid M
 have HX := Tre.hid hx
 have C0 := Tre.hid c0
 have OG := Tre.hid (Graph.ok_of c0)
 have hgl := OG.out.len
 have hg0 : 0 < g.ns.length := by have := OG.out.root1; omega
 have HLM := Tre.hid hm
 have R0 : Hid (g.root = ((g.root.toNat : Nat) : Int)) := by have := OG.out.root0; show _ = _; omega
 have HRL := Tre.hid g.reach_lt
 have hln : g.reachL.length ≤ 2097152 := Nat.le_trans g.reach_len wg
 have HKC := Tre.hid (kept_copies g mono)
 have HGN : Hid (∀ k ∈ g.genericL mono, k < g.ns.length) := fun k hk => List.mem_range.1 (List.mem_filter.1 hk).1
 have hgn : (g.genericL mono).length ≤ 2097152 := by have := List.length_filter_le (fun i => freeB (g.nd i) && (!g.markB mono i && g.markB [g.root.toNat] i)) (List.range g.ns.length); rw [List.length_range] at this; show (List.filter _ _).length ≤ _; omega
 have HCL : Hid (∀ x ∈ g.copiesL mono, x < g.ns.length) := fun x hx => Graph.copies_lt hx
 have HCN := Tre.hid (Graph.copies_nodup (g := g) (mono := mono))
 have HFR : Hid ((g.freshG mono).root = ((nowF g.ns.length (g.copiesL mono) g.root.toNat : Nat) : Int)) := rfl
 have HFN : Hid ((g.freshG mono).ns = g.ns ++ (g.copiesL mono).map fun i => copyN g.ns.length (g.copiesL mono) (g.nd i)) := rfl
 obtain ⟨ni, I1, I2, I3, I4⟩ := info_parts infoN
 have J1 := Tre.hid I1
 have J2 := Tre.hid I2
 have J3 := Tre.hid I3
 have J4 := Tre.hid I4
 obtain ⟨ji, K1, K2, K3, K4⟩ := info_parts infoI
 have L1 := Tre.hid K1
 have L2 := Tre.hid K2
 have L3 := Tre.hid K3
 have L4 := Tre.hid K4
 clear hg hl hx c0 hm M I1 I2 I3 I4 K1 K2 K3 K4
 go_enter Tryz.func7, Tryz.ntmps7
 go_wp2_with fail
 refine (generic_ok a ca g am cm mono _ (HG.out.below HM0.out.below) C0.out wg (HL.out.below HM0.out.below) HLM.out hll (HX.out.below HM0.out.below)).mono ?_
 rintro e w1 ⟨v1, rfl, m1⟩
 have M1 := HM0.out.call m1
 obtain ⟨ag, cg, rfl, _⟩ := M1.val 0 rfl
 obtain ⟨g0, g1⟩ := M1.two 2 rfl
 have HM1 := Tre.hid M1
 clear m1 M1
 go_wp2_with fail
 refine (general_any a ca g ag cg (g.genericL mono) _ (HG.out.below HM1.out.below) C0.out wg (by obtain ⟨a', c', e, _, r⟩ := row_read (HM1.out.row 0 rfl); cases e; rw [IntsAt, List.length_map, casts_map]; exact r) HGN.out hgn).mono ?_
 rintro e w2 ⟨v8, rfl, m2⟩
 have M2 := HM1.out.call m2
 obtain ⟨gm, c8, e8, _, _⟩ : ∃ gm c8, v8 = .slice (some ⟨gm, 0, none⟩) g.ns.length c8 ∧ w.heap.size ≤ gm ∧ gm < w2.heap.size := by
  obtain ⟨n, hn⟩ : ∃ n, g.ns.length = n + 1 := ⟨g.ns.length - 1, by omega⟩
  have h := M2
  rw [hn] at h ⊢
  exact h.pos 0 rfl
 subst e8
 have M3 := M2.allocR #[.slice (some ⟨gm, 0, none⟩) g.ns.length c8] 49
 have HM3 := Tre.hid (M3.del 2)
 obtain ⟨b8, hb8⟩ : ∃ b8 : Nat, w2.heap.size = b8 := ⟨_, rfl⟩
 rw [hb8] at HM3
 obtain ⟨wr3, hw3⟩ : ∃ wr3 : World, w2.alloc (.cells #[.slice (some ⟨gm, 0, none⟩) g.ns.length c8] 49) = wr3 := ⟨_, rfl⟩
 rw [hw3] at HM3
 clear g0 g1
 obtain ⟨g0, g1⟩ := HM3.out.two 3 rfl
 clear m2 M2 M3
 go_wp2_with fail
 refine (reach_any a ca g _ (HG.out.below HM3.out.below) wg (HX.out.below HM3.out.below)).mono ?_
 rintro e w4 ⟨v9, rfl, m4⟩
 have HM4 := Tre.hid (HM3.out.call m4)
 clear m4 hw3
 go_wp2_with fail
 clear hb8
 have CD := deleteInts 19 #[.pointer (some ⟨b8, 0, none⟩)] hcfI (fun z => !(g.leadB (g.genericL mono) z.toNat)) w w4 _ v9 g.reachL (by omega) HM4.out (fun x wx y hxm hMx => isnt x g.ns.length b8 gm c8 _ wx (hMx.cell 1 rfl 0 rfl) (HRL.out x hxm) (by
  have := hMx.cellAt 2 rfl x (u := .bool (g.leadB (g.genericL mono) x)) (by rw [List.getElem?_map, List.getElem?_range (HRL.out x hxm)]; rfl)
  exact this))
 rw [HKC.out] at CD
 refine CD.mono ?_
 rintro e w5 ⟨v5, rfl, m5⟩
 have HM5 := Tre.hid (m5.front 4 rfl)
 clear CD m5
 obtain ⟨a9, c9, rfl, _⟩ := HM5.out.val 1 rfl
 generalize hC : g.copiesL mono = C at *
 have HCC := Tre.hid hC
 clear hC
 clear g0 g1
 obtain ⟨g0, g1⟩ := HM5.out.two 0 rfl
 have hmk0 : ∀ (w : World), (Instr.makeMap 54 none).run Tryz.prog w = .ok (.map (some w.heap.size)) (w.alloc (.map #[] 0)) := fun w => by
  simp [Instr.makeMap, newObj]; rfl
 have M6 := (HM5.out.allocMap Tryz.prog 3 en en).allocR #[.map (some w5.heap.size)] 54
 rw [heapSize_alloc] at M6
 obtain ⟨bmap, hbm⟩ : ∃ bmap : Nat, w5.heap.size = bmap := ⟨_, rfl⟩
 rw [hbm] at M6
 obtain ⟨b10, hb10⟩ : ∃ b10 : Nat, bmap + 1 = b10 := ⟨_, rfl⟩
 rw [hb10] at M6
 obtain ⟨w6, hw6⟩ : ∃ w6 : World, (w5.alloc (.map #[] 0)).alloc (.cells #[.map (some bmap)] 54) = w6 := ⟨_, rfl⟩
 rw [hw6] at M6
 have HM6 := Tre.hid M6
 clear M6
 go_wp2_with fail
 clear hmk0 hw6 hb10 hbm g0 g1
 go_loopw [51] (fun v51 wr => ∃ k N : Nat, k ≤ C.length ∧ v51 = .int .i64 k ∧ Hid (Mem w wr [cellsR b10 54 #[.map (some bmap)], mapR Tryz.prog 3 en en bmap N (toMap g.ns.length C k), cellsR w.heap.size 24 #[.slice a g.ns.length ca, .int .i64 g.root], rowR 3 1 (.slice a9 C.length c9) C.length (C.map rk), cellsR b8 49 #[.slice (some ⟨gm, 0, none⟩) g.ns.length c8], rowR 4 1 (.slice (some ⟨gm, 0, none⟩) g.ns.length c8) g.ns.length ((List.range g.ns.length).map fun i => .bool (g.leadB (g.genericL mono) i)), cellsR (w.heap.size + 1) 24 #[.slice none 0 0, .int .i64 0]]))
  (fun v51 _ => C.length - (intOf v51).toNat)
 case atStart => exact ⟨0, 0, Nat.zero_le _, rfl, by rw [toMap_zero]; exact HM6.out⟩
 case round =>
  obtain ⟨k, N, hk, rfl, hM⟩ := hrel
  obtain ⟨g0, g1⟩ := hM.out.two 2 rfl
  have c10 := hM.out.cell 0 rfl 0 rfl
  by_cases hlt : k < C.length
  ·obtain ⟨gl, rfl, _, _, hcl'⟩ := hM.out.getRow 3 rfl k (u := rk C[k]) (by rw [List.getElem?_map, List.getElem?_eq_getElem hlt]; rfl)
   have hxl := HCL.out _ (List.getElem_mem hlt)
   have HS := Tre.hid (toMap_succ (n := g.ns.length) HCN.out hlt)
   generalize C[k] = x at *
   have hcl2 : wr.cell? ⟨gl, k, none⟩ = some (.int .i64 (x : Int)) := hcl'
   clear hcl'
   go_wp2_with (refine wpList_store rfl _ _ _ 54 (.inl rfl) 3 KI injN Tryz.underlying54 rfl (hM.out.map 1 rfl) x rfl (kn x (by omega)) (g.ns.length + k) rfl ?_; intro w2 hm2 hg2; have M3 := hM.out.put 1 rfl hg2 hm2; have HM3 := Tre.hid M3; clear M3 hm2 hg2)
   go_roundw
   case rel => exact ⟨k + 1, _, by omega, by go_num, by have := HM3.out; rw [HS.out] at this; exact this⟩
   case measure => simp [intOf]; omega
  ·have e : k = C.length := by omega
   have hM' := hM.out
   rw [e] at hM'
   have HM7 := Tre.hid ((hM'.del 4).del 4)
   have CN := now_any g.root.toNat g.ns.length C b10 bmap N wr c10 (hM'.map 1 rfl) (by have := OG.out.root1; omega)
   rw [← R0.out] at CN
   have HCN2 := Tre.hid CN
   clear hM hM' e CN
   go_wp2_with fail
   refine HCN2.out.mono ?_
   rintro e w8 ⟨rfl, b8q⟩
   have M8 := (HM7.out.quiet b8q).allocR #[.slice none 0 0, .int .i64 ((nowF g.ns.length C g.root.toNat : Nat) : Int)] 24
   obtain ⟨bo, hbo⟩ : ∃ bo : Nat, w8.heap.size = bo := ⟨_, rfl⟩
   rw [hbo] at M8
   obtain ⟨wz, hwz⟩ : ∃ wz : World, w8.alloc (.cells #[.slice none 0 0, .int .i64 ((nowF g.ns.length C g.root.toNat : Nat) : Int)] 24) = wz := ⟨_, rfl⟩
   rw [hwz] at M8
   clear g0 g1
   obtain ⟨g0, g1⟩ := M8.two 3 rfl
   have HM8 := Tre.hid (M8.addMany.addNil 40 5)
   clear b8q M8 c10
   go_wp2_with fail
   clear hbo hwz g0 g1
   generalize hrv : ((nowF g.ns.length C g.root.toNat : Nat) : Int) = rv at *
   have HRV := Tre.hid hrv
   clear hrv
   go_loopw [73] (fun v73 wr => ∃ (i : Nat) (vN : Value) (ds : List NodeV), i ≤ g.ns.length ∧ v73 = .int .i64 i ∧ Hid (ds.map NodeV.n = g.ns.take i) ∧ Hid (Mem w wr [nodesR vN ds, kidsR ds, cellsR bo 24 #[vN, .int .i64 rv], cellsR b10 54 #[.map (some bmap)], mapR Tryz.prog 3 en en bmap N (toMap g.ns.length C C.length), cellsR w.heap.size 24 #[.slice a g.ns.length ca, .int .i64 g.root], rowR 3 1 (.slice a9 C.length c9) C.length (C.map rk), cellsR (w.heap.size + 1) 24 #[.slice none 0 0, .int .i64 0]]))
    (fun v73 _ => g.ns.length - (intOf v73).toNat)
   case atStart => exact ⟨0, .slice none 0 0, [], Nat.zero_le _, rfl, rfl, HM8.out⟩
   case round =>
    obtain ⟨i, vN, ds, hi, rfl, hds, hR⟩ := hrel
    obtain ⟨aN, cN, rfl, _⟩ := hR.out.val 0 rfl
    obtain ⟨g0, g1⟩ := hR.out.two 5 rfl
    by_cases hil : i < g.ns.length
    ·obtain ⟨b1, o1, rfl, nx⟩ := HG.out.at_ i (g.nd i) (by rw [Graph.nd_eq hil]; exact List.getElem?_eq_getElem hil)
     have HTK : Hid (g.ns.take (i + 1) = g.ns.take i ++ [g.nd i]) := by show _ = _; rw [List.take_add_one, List.getElem?_eq_getElem hil, Graph.nd_eq hil]; rfl
     have hXw : (g.nd i).weight ≤ g.weight := by rw [Graph.nd_eq hil]; exact node_weight (List.getElem_mem hil)
     have hxa := args_len (g.nd i)
     have hxb := labels_len (g.nd i)
     have hdl : ds.length = i := by have := congrArg List.length hds.out; rw [List.length_map, List.length_take] at this; omega
     have hdl' : ds.length ≤ 1048576 := by omega
     generalize hX : g.nd i = X at *
     obtain ⟨ax, cx, lx, dx, x0, x1, x2, x3, x4, xA, xL, _, _⟩ := nx
     have XA := Tre.hid xA
     have XL := Tre.hid xL
     have x0 := cell_below hR.out.below x0
     have x1 := cell_below hR.out.below x1
     have x2 := cell_below hR.out.below x2
     have x3 := cell_below hR.out.below x3
     have x4 := cell_below hR.out.below x4
     obtain ⟨bx, hbx⟩ : ∃ bx : Nat, wr.heap.size = bx := ⟨_, rfl⟩
     have MA := hR.out.allocR #[.int .i64 X.kind, .string X.name, .slice ax X.args.length cx, .slice lx X.labels.length dx, .bool X.isOpen] 40
     rw [hbx] at MA
     have z2 := MA.cell 0 rfl 2 rfl
     have z3 := MA.cell 0 rfl 3 rfl
     have HMA := Tre.hid MA
     have i1 : (0 : Int) ≤ (i : Int) := by omega
     have i2 : (i : Int) < (g.ns.length : Int) := by omega
     clear xA xL MA hX hdl
     go_upto_region 19 with fail
     clear hbx x0 x1 x2 x3 x4
     have cS : Cond (fun w' => w'.cell? ⟨bx, 2, none⟩ = some (.slice ax X.args.length cx) ∧ w'.cell? ⟨bx, 3, none⟩ = some (.slice lx X.labels.length dx)) := ⟨⟩
     refine cS.keep [5, 7, 9] ?_ (fun hH0 => ?_)
     ·exact ⟨z2, z3⟩
     have H0 := Tre.hid HMA.out.drew
     generalize hq : (wr.alloc (.cells #[.int .i64 X.kind, .string X.name, .slice ax X.args.length cx, .slice lx X.labels.length dx, .bool X.isOpen] 40)).drew = wq0 at H0 hH0 ⊢
     clear hq
     refine lPq 0 (some 77) (v := ?_) rfl ?_ (keep_of hH0) ?_
     rotate_left
     ·intro w; go_simp <;> with_reducible rfl
     try simp only [Act.put, zqf, zqg, zqh]
     refine lPq 3 (some 80) (v := ?_) rfl ?_ (keep_of hH0) ?_
     rotate_left
     ·intro w; go_simp <;> with_reducible rfl
     try simp only [Act.put, zqf, zqg, zqh]
     refine lTq 1 (some 78) (v := ?_) rfl ?_ hH0 ?_
     rotate_left
     ·intro w hSw; (try dsimp only at hSw); go_simp <;> with_reducible rfl
     try simp only [Act.put, zqf, zqg, zqh]
     refine lTq 4 (some 81) (v := ?_) rfl ?_ hH0 ?_
     rotate_left
     ·intro w hSw; (try dsimp only at hSw); go_simp <;> with_reducible rfl
     try simp only [Act.put, zqf, zqg, zqh]
     refine lOne 2 (by kernel_rfl) (LStep.op (fun K hK => ?_))
     go_simp
     refine (cloneInts ax cx X.args _ (XA.out.below H0.out.below) (by omega)).mono ?_
     rintro e wq1 ⟨va, rfl, mq⟩
     have M4 := H0.out.call mq
     obtain ⟨aA, cA, rfl, _⟩ := M4.val 0 rfl
     have H1 := Tre.hid M4
     clear M4 mq
     (try dsimp only)
     refine hK.out _ _ ?_ (fun hH1 => ?_)
     ·exact ⟨H1.out.cell 1 rfl 2 rfl, H1.out.cell 1 rfl 3 rfl⟩
     clear hK K hH0
     try simp only [Act.put, zqf, zqg, zqh]
     refine lPq 6 (some 83) (v := ?_) rfl ?_ (keep_of hH1) ?_
     rotate_left
     ·intro w; go_simp <;> with_reducible rfl
     try simp only [Act.put, zqf, zqg, zqh]
     refine lOne 5 (by kernel_rfl) (LFall.op (by kernel_rfl) (fun K hK => ?_))
     go_simp
     refine (cloneStrs lx dx X.labels _ (XL.out.below H1.out.below) (by omega)).mono ?_
     rintro e wq2 ⟨vl, rfl, mq⟩
     have M4 := H1.out.call mq
     obtain ⟨aL, cL, rfl, _⟩ := M4.val 0 rfl
     have H2 := Tre.hid M4
     clear M4 mq
     (try dsimp only)
     refine hK.out _ _ ?_
     clear hK K hH1
     try simp only [Act.put, zqf, zqg, zqh]
     refine lOne 7 (by kernel_rfl) (LFall.op (by kernel_rfl) (fun K hK => ?_))
     have f2 := H2.out.free 2 rfl 2
     have q2 := H2.out.cell 2 rfl 2 rfl
     have H3 := Tre.hid (H2.out.setCell 2 rfl 2 (.slice aA X.args.length cA))
     go_simp
     generalize hw : wq2.setCell ⟨bx, 2, none⟩ (.slice aA X.args.length cA) = wq3 at H3 ⊢
     clear hw f2 q2
     refine hK.out _ _ ?_
     clear hK K
     try simp only [Act.put, zqf, zqg, zqh]
     refine lPq 8 (some 84) (v := ?_) rfl ?_ (keep_fell (by kernel_rfl)) ?_
     rotate_left
     ·intro w; go_simp <;> with_reducible rfl
     try simp only [Act.put, zqf, zqg, zqh]
     refine lOne 9 (by kernel_rfl) (LFall.op (by kernel_rfl) (fun K hK => ?_))
     have f2 := H3.out.free 2 rfl 3
     have q2 := H3.out.cell 2 rfl 3 rfl
     have H4 := Tre.hid (H3.out.setCell 2 rfl 3 (.slice aL X.labels.length cL))
     go_simp
     generalize hw : wq3.setCell ⟨bx, 3, none⟩ (.slice aL X.labels.length cL) = wq4 at H4 ⊢
     clear hw f2 q2
     refine hK.out _ _ ?_
     clear hK K
     try simp only [Act.put, zqf, zqg, zqh]
     refine lDone (by kernel_rfl) ?_
     obtain ⟨y0, y1, y2, y3, y4⟩ := five H4.out 2 rfl
     have MB := Tre.hid (H4.out.allocRow #[.int .i64 X.kind, .string X.name, .slice aA X.args.length cA, .slice aL X.labels.length cL, .bool X.isOpen] 40 5 1 (by unfold maxLen; omega) rfl)
     obtain ⟨p0, p1⟩ := H4.out.two 5 rfl
     clear g0 g1
     go_wp2_with (at_builtin; refine wpList_append_row _ rfl _ _ 22 rfl 40 ni _ 5 80 Tryz.underlying22 J1.out J2.out J3.out J4.out rfl (by omega) (.slice aN ds.length cN) ds.length (ds.flatMap NodeV.cells) rfl (MB.out.row 4 rfl) (some ⟨wq4.heap.size, 0, none⟩) 1 1 [.int .i64 X.kind, .string X.name, .slice aA X.args.length cA, .slice aL X.labels.length cL, .bool X.isOpen] rfl ⟨rfl, fun j u hj => ⟨_, 0, rfl, by rw [Nat.zero_add]; exact MB.out.cellAt 0 rfl j hj⟩⟩ (by simp [Value.oneCell']) (by unfold maxLen; omega) (by omega) ?_; intro v' w9 hown4 hgrow4 hat4; have M4 := MB.out.grow 4 rfl hgrow4 hown4 hat4; obtain ⟨a4, c4, rfl, _⟩ := M4.val 4 rfl; have q6 : w9.cell? ⟨bo, 0, none⟩ = some (.slice aN ds.length cN) := M4.cell 6 rfl 0 rfl; have f6 := M4.free 6 rfl 0; have HM4 := Tre.hid (M4.setCell 6 rfl 0 (.slice a4 (ds.length + 1) c4)); clear M4 hown4 hgrow4 hat4)
     go_roundw
     case rel =>
      have hk : kids ⟨X, .slice aA X.args.length cA, .slice aL X.labels.length cL⟩ = [rowR 3 1 (.slice aA X.args.length cA) X.args.length (X.args.map (Value.int .i64)), rowR 9 1 (.slice aL X.labels.length cL) X.labels.length (X.labels.map Value.string)] := rfl
      refine ⟨i + 1, .slice a4 (ds.length + 1) c4, ds ++ [⟨X, .slice aA X.args.length cA, .slice aL X.labels.length cL⟩], by omega, by go_num, ?_, ?_⟩
      ·show _ = _
       rw [List.map_append, hds.out, HTK.out]; rfl
      ·show Mem _ _ _
       rw [nodesR_snoc, kidsR_snoc, hk]
       have h1 := (HM4.out.del 0).del 2
       have h2 : Mem w _ (rowR 3 1 (.slice aA X.args.length cA) X.args.length (X.args.map (Value.int .i64)) :: rowR 9 1 (.slice aL X.labels.length cL) X.labels.length (X.labels.map Value.string) :: _) := h1.front 1 rfl
       exact h2.push2b
     case measure => simp [intOf]; omega
    ·have e : i = g.ns.length := by omega
     subst e
     have hds' := hds.out
     rw [List.take_length] at hds'
     have HDS := Tre.hid hds'
     clear hds hds' g0 g1
     go_wp2_with fail
     go_loopw [94] (fun v94 wr => ∃ (k : Nat) (vN : Value) (ds : List NodeV), k ≤ C.length ∧ v94 = .int .i64 k ∧ Hid (ds.map NodeV.n = g.ns ++ (C.take k).map fun i => copyN g.ns.length C (g.nd i)) ∧ Hid (Mem w wr [nodesR vN ds, kidsR ds, cellsR bo 24 #[vN, .int .i64 rv], cellsR b10 54 #[.map (some bmap)], mapR Tryz.prog 3 en en bmap N (toMap g.ns.length C C.length), cellsR w.heap.size 24 #[.slice a g.ns.length ca, .int .i64 g.root], rowR 3 1 (.slice a9 C.length c9) C.length (C.map rk), cellsR (w.heap.size + 1) 24 #[.slice none 0 0, .int .i64 0]]))
      (fun v94 _ => C.length - (intOf v94).toNat)
     case atStart => exact ⟨0, _, ds, Nat.zero_le _, rfl, by show _ = _; rw [HDS.out]; simp, hR.out⟩
     case round =>
      obtain ⟨k, vN, ds, hk, rfl, hds, hQ⟩ := hrel
      obtain ⟨aN, cN, rfl, _⟩ := hQ.out.val 0 rfl
      obtain ⟨g0, g1⟩ := hQ.out.two 5 rfl
      by_cases hlt : k < C.length
      ·obtain ⟨gl, rfl, _, _, hcl'⟩ := hQ.out.getRow 6 rfl k (u := rk C[k]) (by rw [List.getElem?_map, List.getElem?_eq_getElem hlt]; rfl)
       have hxl := HCL.out _ (List.getElem_mem hlt)
       have HTK : Hid (C.take (k + 1) = C.take k ++ [C[k]]) := by show _ = _; rw [List.take_add_one, List.getElem?_eq_getElem hlt]; rfl
       generalize C[k] = x at *
       have hcl2 : wr.cell? ⟨gl, k, none⟩ = some (.int .i64 (x : Int)) := hcl'
       obtain ⟨b1, o1, rfl, nx⟩ := HG.out.at_ x (g.nd x) (by rw [Graph.nd_eq hxl]; exact List.getElem?_eq_getElem hxl)
       have hXw : (g.nd x).weight ≤ g.weight := by rw [Graph.nd_eq hxl]; exact node_weight (List.getElem_mem hxl)
       have hxa := args_len (g.nd x)
       have hxb := labels_len (g.nd x)
       have HAX := Tre.hid (OG.out.kids_eq hxl)
       have HKL := Tre.hid (OG.out.kids_lt hxl)
       have hdl : ds.length = g.ns.length + k := by have := congrArg List.length hds.out; rw [List.length_map, List.length_append, List.length_map, List.length_take] at this; omega
       have hdl' : ds.length ≤ 1048576 := by omega
       generalize hX : g.nd x = X at *
       have HXX := Tre.hid hX
       obtain ⟨ax, cx, lx, dx, x0, x1, x2, x3, x4, xA, xL, _, _⟩ := nx
       have XA := Tre.hid xA
       have XL := Tre.hid xL
       have x0 := cell_below hQ.out.below x0
       have x1 := cell_below hQ.out.below x1
       have x2 := cell_below hQ.out.below x2
       have x3 := cell_below hQ.out.below x3
       have x4 := cell_below hQ.out.below x4
       obtain ⟨bx, hbx⟩ : ∃ bx : Nat, wr.heap.size = bx := ⟨_, rfl⟩
       have MA := hQ.out.allocR #[.int .i64 X.kind, .string X.name, .slice ax X.args.length cx, .slice lx X.labels.length dx, .bool X.isOpen] 40
       rw [hbx] at MA
       have z3 := MA.cell 0 rfl 3 rfl
       have HMA := Tre.hid MA
       have i1 : (0 : Int) ≤ (x : Int) := by omega
       have i2 : (x : Int) < (g.ns.length : Int) := by omega
       clear xA xL MA hX hdl hcl'
       go_wp2_with fail
       refine (cloneStrs lx dx X.labels _ (XL.out.below HMA.out.below) (by omega)).mono ?_
       rintro e w2 ⟨vl, rfl, m2⟩
       have M2 := HMA.out.call m2
       obtain ⟨aL, cL, rfl, _⟩ := M2.val 0 rfl
       have f3 := M2.free 1 rfl 3
       have q3 := M2.cell 1 rfl 3 rfl
       have M3 := M2.setCell 1 rfl 3 (.slice aL X.labels.length cL)
       obtain ⟨ww, hww⟩ : ∃ ww : World, w2.setCell ⟨bx, 3, none⟩ (.slice aL X.labels.length cL) = ww := ⟨_, rfl⟩
       rw [hww] at M3
       obtain ⟨wm, hmk, hmo, hmg⟩ := run_make_own (P := Tryz.prog) ww 0 31 3 ji _ 1 Tryz.underlying31 L1.out L2.out L3.out .i64 .i64 X.args.length (by rw [L4.out]; omega) (by unfold maxLen; omega) (Nat.zero_le _)
       have M5 := M3.add hmg (rowR 3 1 (.slice (some ⟨ww.heap.size, 0, none⟩) 0 X.args.length) 0 []) hmo (fun b hb => by have : some ww.heap.size = some b := hb; cases this; exact Nat.le_refl _)
       have c2 := M3.cell 1 rfl 2 rfl
       have c5 := M5.cell 2 rfl 2 rfl
       have HM5 := Tre.hid M5
       clear m2 M2 M3 M5 hmo hmg z3 hbx x0 x1 x2 x3 x4 hcl2
       go_wp2_with fail
       clear hww hmk f3 q3 c2 c5
       have HM6 : Hid (Mem w wm [rowR 3 1 (.slice (some ⟨ww.heap.size, 0, none⟩) 0 X.args.length) 0 (([] : List Int).map fun z => Value.int .i64 ((nowF g.ns.length C z.toNat : Nat) : Int)), rowR 9 1 (.slice aL X.labels.length cL) X.labels.length (X.labels.map Value.string), cellsR bx 40 #[.int .i64 X.kind, .string X.name, .slice ax X.args.length cx, .slice aL X.labels.length cL, .bool X.isOpen], nodesR (.slice aN ds.length cN) ds, kidsR ds, cellsR bo 24 #[.slice aN ds.length cN, .int .i64 rv], cellsR b10 54 #[.map (some bmap)], mapR Tryz.prog 3 en en bmap N (toMap g.ns.length C C.length), cellsR w.heap.size 24 #[.slice (some ⟨b1, o1, none⟩) g.ns.length ca, .int .i64 g.root], rowR 3 1 (.slice (some ⟨gl, 0, none⟩) C.length c9) C.length (C.map rk), cellsR (w.heap.size + 1) 24 #[.slice none 0 0, .int .i64 0]]) := HM5.out
       clear HM5
       go_loopw [20, 114] (fun v20 v114 wr => ∃ (j : Nat) (vR : Value), j ≤ X.args.length ∧ v114 = .int .i64 j ∧ v20 = vR ∧ Hid (Mem w wr [rowR 3 1 vR j ((X.args.take j).map fun z => Value.int .i64 ((nowF g.ns.length C z.toNat : Nat) : Int)), rowR 9 1 (.slice aL X.labels.length cL) X.labels.length (X.labels.map Value.string), cellsR bx 40 #[.int .i64 X.kind, .string X.name, .slice ax X.args.length cx, .slice aL X.labels.length cL, .bool X.isOpen], nodesR (.slice aN ds.length cN) ds, kidsR ds, cellsR bo 24 #[.slice aN ds.length cN, .int .i64 rv], cellsR b10 54 #[.map (some bmap)], mapR Tryz.prog 3 en en bmap N (toMap g.ns.length C C.length), cellsR w.heap.size 24 #[.slice (some ⟨b1, o1, none⟩) g.ns.length ca, .int .i64 g.root], rowR 3 1 (.slice (some ⟨gl, 0, none⟩) C.length c9) C.length (C.map rk), cellsR (w.heap.size + 1) 24 #[.slice none 0 0, .int .i64 0]]))
        (fun _ v114 _ => X.args.length - (intOf v114).toNat)
       case atStart => exact ⟨0, _, Nat.zero_le _, rfl, rfl, HM6.out⟩
       case round =>
        obtain ⟨j, vR, hj, rfl, rfl, hI⟩ := hrel
        obtain ⟨aR, cR, rfl, _⟩ := hI.out.val 0 rfl
        by_cases hjl : j < X.args.length
        ·obtain ⟨bz, oz, rfl, hzc⟩ := XA.out.at_ j (.int .i64 X.args[j]) (by rw [List.getElem?_map, List.getElem?_eq_getElem hjl]; rfl)
         have hzc := cell_below hI.out.below hzc
         have hyk : ∃ y : Nat, X.args[j] = (y : Int) ∧ y < g.ns.length := by
          have h9 : ∀ z ∈ X.args, ∃ y : Nat, z = (y : Int) ∧ y < g.ns.length := by
           rw [HAX.out]
           intro z hz
           obtain ⟨q, hq, rfl⟩ := List.mem_map.1 hz
           exact ⟨q, rfl, HKL.out q hq⟩
          exact h9 _ (List.getElem_mem hjl)
         obtain ⟨y, hy, hyl⟩ := hyk
         have HTJ : Hid ((X.args.take (j + 1)).map (fun z => Value.int .i64 ((nowF g.ns.length C z.toNat : Nat) : Int)) = (X.args.take j).map (fun z => Value.int .i64 ((nowF g.ns.length C z.toNat : Nat) : Int)) ++ [.int .i64 ((nowF g.ns.length C y : Nat) : Int)]) := by
          show _ = _; rw [List.take_add_one, List.getElem?_eq_getElem hjl, List.map_append, hy]; rfl
         rw [hy] at hzc
         have CN := now_any y g.ns.length C b10 bmap N wr (hI.out.cell 6 rfl 0 rfl) (hI.out.map 7 rfl) (by omega)
         have HCN2 := Tre.hid CN
         have j1 : (0 : Int) ≤ (j : Int) := by omega
         have j2 : (j : Int) < (X.args.length : Int) := by omega
         clear hy CN
         go_wp2_with fail
         refine HCN2.out.mono ?_
         rintro e w7 ⟨rfl, b7⟩
         have MB := Tre.hid ((hI.out.quiet b7).allocRow #[.int .i64 ((nowF g.ns.length C y : Nat) : Int)] 3 1 1 (by unfold maxLen; omega) rfl)
         generalize ((nowF g.ns.length C y : Nat) : Int) = u at *
         clear b7 hzc
         go_wp2_with (at_builtin; refine wpList_append_row _ rfl _ _ 31 rfl 3 ji _ 1 8 Tryz.underlying31 L1.out L2.out L3.out L4.out rfl (by omega) (.slice aR j cR) j _ rfl (MB.out.row 1 rfl) (some ⟨w7.heap.size, 0, none⟩) 1 1 [.int .i64 u] rfl ⟨rfl, fun j u hj => ⟨_, 0, rfl, by rw [Nat.zero_add]; exact MB.out.cellAt 0 rfl j hj⟩⟩ (by simp [Value.oneCell']) (by unfold maxLen; omega) (by omega) ?_; intro v' w8 hown4 hgrow4 hat4; have M4 := MB.out.grow 1 rfl hgrow4 hown4 hat4; obtain ⟨a4, c4, rfl, _⟩ := M4.val 1 rfl; have HM4 := Tre.hid M4; clear M4 hown4 hgrow4 hat4)
         go_roundw
         case rel =>
          refine ⟨j + 1, .slice a4 (j + 1) c4, by omega, by go_num, rfl, ?_⟩
          show Mem _ _ _
          rw [HTJ.out]
          exact HM4.out.del 0
         case measure => simp [intOf]; omega
        ·have e : j = X.args.length := by omega
         subst e
         have hI' := hI.out
         rw [List.take_length] at hI'
         have f2 := hI'.free 2 rfl 2
         obtain ⟨y0, y1, y2, y3, y4⟩ := five hI' 2 rfl
         have M8 := hI'.setCell 2 rfl 2 (.slice aR X.args.length cR)
         obtain ⟨ww, hww⟩ : ∃ ww : World, wr.setCell ⟨bx, 2, none⟩ (.slice aR X.args.length cR) = ww := ⟨_, rfl⟩
         rw [hww] at M8
         obtain ⟨t0, t1, t2, t3, t4⟩ := five M8 2 rfl
         have MB := Tre.hid (M8.allocRow #[.int .i64 X.kind, .string X.name, .slice aR X.args.length cR, .slice aL X.labels.length cL, .bool X.isOpen] 40 5 1 (by unfold maxLen; omega) rfl)
         obtain ⟨p0, p1⟩ := M8.two 5 rfl
         clear hI hI' M8
         trace_state
         go_wp2_with (at_builtin; refine wpList_append_row _ rfl _ _ 22 rfl 40 ni _ 5 80 Tryz.underlying22 J1.out J2.out J3.out J4.out rfl (by omega) (.slice aN ds.length cN) ds.length (ds.flatMap NodeV.cells) rfl (MB.out.row 4 rfl) (some ⟨ww.heap.size, 0, none⟩) 1 1 [.int .i64 X.kind, .string X.name, .slice aR X.args.length cR, .slice aL X.labels.length cL, .bool X.isOpen] rfl ⟨rfl, fun j u hj => ⟨_, 0, rfl, by rw [Nat.zero_add]; exact MB.out.cellAt 0 rfl j hj⟩⟩ (by simp [Value.oneCell']) (by unfold maxLen; omega) (by omega) ?_; intro v' w9 hown4 hgrow4 hat4; have M4 := MB.out.grow 4 rfl hgrow4 hown4 hat4; obtain ⟨a4, c4, rfl, _⟩ := M4.val 4 rfl; have q6 : w9.cell? ⟨bo, 0, none⟩ = some (.slice aN ds.length cN) := M4.cell 6 rfl 0 rfl; have f6 := M4.free 6 rfl 0; have HM4 := Tre.hid (M4.setCell 6 rfl 0 (.slice a4 (ds.length + 1) c4)); clear M4 hown4 hgrow4 hat4)
         clear hww
         go_roundw
         case rel =>
          have hk : kids ⟨copyN g.ns.length C X, .slice aR X.args.length cR, .slice aL X.labels.length cL⟩ = [rowR 3 1 (.slice aR X.args.length cR) X.args.length (X.args.map fun z => Value.int .i64 ((nowF g.ns.length C z.toNat : Nat) : Int)), rowR 9 1 (.slice aL X.labels.length cL) X.labels.length (X.labels.map Value.string)] := by
           simp only [kids, copyN, List.length_map, List.map_map]; rfl
          refine ⟨k + 1, .slice a4 (ds.length + 1) c4, ds ++ [⟨copyN g.ns.length C X, .slice aR X.args.length cR, .slice aL X.labels.length cL⟩], by omega, by go_num, ?_, ?_⟩
          ·show _ = _
           rw [List.map_append, hds.out, HTK.out, List.map_append, ← List.append_assoc, List.map_singleton, List.map_singleton, HXX.out]
          ·show Mem _ _ _
           rw [nodesR_snoc, kidsR_snoc, hk]
           exact ((HM4.out.del 0).del 2).push2b
         case measure => simp [intOf]; omega
      ·have e : k = C.length := by omega
       subst e
       have hds' := hds.out
       rw [List.take_length] at hds'
       have HDF := Tre.hid hds'
       obtain ⟨q0, q1⟩ := hQ.out.two 2 rfl
       obtain ⟨p0, p1⟩ := hQ.out.two 7 rfl
       have q0f := hQ.out.free 7 rfl 0
       have q1f := hQ.out.free 7 rfl 1
       have M6 := (hQ.out.setCell 7 rfl 0 (.slice aN ds.length cN)).setCell 7 rfl 1 (.int .i64 rv)
       have HM6 := Tre.hid M6
       clear hds hds' M6
       go_wp2_with fail
       have z0 : ((wr.setCell ⟨w.heap.size + 1, 0, none⟩ (.slice aN ds.length cN)).setCell ⟨w.heap.size + 1, 1, none⟩ (.int .i64 rv)).cell? ⟨w.heap.size + 1, 0, none⟩ = some (.slice aN ds.length cN) := HM6.out.cell 7 rfl 0 rfl
       have z1 : ((wr.setCell ⟨w.heap.size + 1, 0, none⟩ (.slice aN ds.length cN)).setCell ⟨w.heap.size + 1, 1, none⟩ (.int .i64 rv)).cell? ⟨w.heap.size + 1, 1, none⟩ = some (.int .i64 rv) := HM6.out.cell 7 rfl 1 rfl
       refine bodyPost_ret (v := .tuple #[.agg #[.slice aN ds.length cN, .int .i64 rv], .int .i64 0]) (by simp [results, Tryz.results7, go_sem, z0, z1]) rfl ⟨.slice aN ds.length cN, ds, ?_, ?_, HM6.out.sub (by simp)⟩
       ·rw [HFR.out]
       ·rw [HFN.out]; exact HDF.out
end Go.Proofs.YtlkfhbmjemjohaaGreatDoor.gr
namespace Go.Proofs.YtlkfhbmjemjohaaGreatDoor.great
open Go.RowKit Go.Tre

set_option maxHeartbeats 1000000 in
theorem great (a : Option Addr) (cap : Nat) (g : Graph) (w : World) (hw : g.weight ≤ 8388608) (hn : NodesAt w a g.ns) :
  Calls Tryz.prog 11 #[.agg #[.slice a g.ns.length cap, .int .i64 g.root]] w fun e w' => e = .returned (.int .i64 g.great) ∧ Below w.heap.size w w' := by
 have hlen : g.ns.length ≤ 8388608 := Nat.le_trans (length_le_sum _ (fun x => by unfold Node.weight; omega) _) hw
 go_enter Tryz.func11, Tryz.ntmps11
 go_wp2_with fail
 go_loopw [3, 14] (fun t i wr => ∃ k : Nat, k ≤ g.ns.length ∧ i = .int .i64 k ∧ t = .int .i64 ((g.ns.length + ((g.ns.take k).map Node.great).sum : Nat) : Int) ∧ Below w.heap.size w wr) (fun _ i _ => g.ns.length - (intOf i).toNat)
 case atStart => exact ⟨0, Nat.zero_le _, rfl, by simp, (Below.refl _ _).alloc (Nat.le_refl _) _⟩
 case round =>
  obtain ⟨k, hk, rfl, rfl, hb⟩ := hrel
  by_cases hlt : k < g.ns.length
  ·have hx : g.ns[k]? = some g.ns[k] := List.getElem?_eq_getElem hlt
   obtain ⟨b, off, rfl, hna⟩ := (hn.below hb).at_ k _ hx
   obtain ⟨aa, ca, al, cl, h0, h1, h2, h3, h4, _, h6, _, _⟩ := hna
   have hs1 := sum_take_succ Node.great g.ns k _ hx
   have hs2 := sum_take_le Node.great g.ns (k + 1)
   have hgw := g.great_le
   have hgg : g.great = g.ns.length + (g.ns.map Node.great).sum := rfl
   have hng : g.ns[k].great = g.ns[k].args.length + g.ns[k].labels.length + big g.ns[k].name + (g.ns[k].labels.map big).sum := rfl
   generalize hS : ((g.ns.take k).map Node.great).sum = S at *
   have HS := Tre.hid hS
   clear hS hn
   generalize hnd : g.ns[k] = nd at *
   clear hnd
   have hbig : big nd.name = if 1000 < nd.name.size then 1000 else 0 := rfl
   have hbw : Below w.heap.size w (wr.alloc (.cells #[.int .i64 nd.kind, .string nd.name, .slice aa nd.args.length ca, .slice al nd.labels.length cl, .bool nd.isOpen] 40)) := hb.alloc hb.size _
   have HB := Tre.hid hbw
   have HX := Tre.hid hx
   have HG := Tre.hid hgg
   have H1 := Tre.hid hs1
   have HN := Tre.hid hng
   have bd : g.ns.length + S + nd.args.length + nd.labels.length + big nd.name + (nd.labels.map big).sum ≤ 8388608 := by omega
   clear hbw hx hgg hs1 hng hb hs2 hgw
   by_cases hnm : 1000 < nd.name.size
   ·rw [if_pos hnm] at hbig
    rw [hbig] at bd
    have HBG := Tre.hid hbig
    clear hbig
    go_wp2_with fail
    go_loopw [3, 36] (fun t i wi => ∃ j : Nat, j ≤ nd.labels.length ∧ i = .int .i64 j ∧ t = .int .i64 ((g.ns.length + S + (nd.args.length + nd.labels.length) + 1000 + ((nd.labels.take j).map big).sum : Nat) : Int) ∧ Below w.heap.size w wi ∧ Below wr.heap.size wr wi) (fun _ i _ => nd.labels.length - (intOf i).toNat)
    case atStart => exact ⟨0, Nat.zero_le _, rfl, congrArg (Value.int .i64) (by simp), HB.out, (Below.refl _ _).alloc (Nat.le_refl _) _⟩
    case round =>
     obtain ⟨j, hj, rfl, rfl, hb, hbr⟩ := hrel
     have t2 := sum_take_le big nd.labels (j + 1)
     by_cases hjl : j < nd.labels.length
     ·have hy : nd.labels[j]? = some nd.labels[j] := List.getElem?_eq_getElem hjl
      obtain ⟨b2, o2, rfl, hc⟩ := (h6.below hbr).at_ j (.string nd.labels[j]) (by simp [hy])
      have t1 := sum_take_succ big nd.labels j _ hy
      generalize nd.labels[j] = s at *
      generalize hU : ((nd.labels.take j).map big).sum = U at *
      have HU := Tre.hid hU
      clear hU hy
      have hbg : big s = if 1000 < s.size then 1000 else 0 := rfl
      have T1 := Tre.hid t1
      by_cases hsz : 1000 < s.size
      ·rw [if_pos hsz] at hbg
       have bd' : g.ns.length + S + nd.args.length + nd.labels.length + 1000 + U + 1000 ≤ 8388608 := by omega
       have HV := Tre.hid hbg
       clear hbg t1 t2
       go_wp2_with fail
       go_roundw
       case rel => exact ⟨j + 1, by omega, rfl, congrArg (Value.int .i64) (by rw [T1.out, HV.out]; omega), hb, hbr⟩
       case measure => simp [intOf]; omega
      ·rw [if_neg hsz] at hbg
       have bd' : g.ns.length + S + nd.args.length + nd.labels.length + 1000 + U ≤ 8388608 := by omega
       have HV := Tre.hid hbg
       clear hbg t1 t2
       go_wp2_with fail
       go_roundw
       case rel => exact ⟨j + 1, by omega, rfl, congrArg (Value.int .i64) (by rw [T1.out, HV.out]; omega), hb, hbr⟩
       case measure => simp [intOf]; omega
     ·have hjj : j = nd.labels.length := by omega
      have e0 : Hid (((nd.labels.take j).map big).sum = (nd.labels.map big).sum) := by rw [List.take_of_length_le (by omega)]; rfl
      clear hjj t2
      go_wp2_with fail
      go_roundw
      case rel => exact ⟨k + 1, by omega, rfl, congrArg (Value.int .i64) (by rw [H1.out, HN.out, e0.out, HBG.out]; omega), hb⟩
      case measure => simp [intOf]; omega
   ·rw [if_neg hnm] at hbig
    rw [hbig] at bd
    have HBG := Tre.hid hbig
    clear hbig
    go_wp2_with fail
    go_loopw [3, 36] (fun t i wi => ∃ j : Nat, j ≤ nd.labels.length ∧ i = .int .i64 j ∧ t = .int .i64 ((g.ns.length + S + (nd.args.length + nd.labels.length) + 0 + ((nd.labels.take j).map big).sum : Nat) : Int) ∧ Below w.heap.size w wi ∧ Below wr.heap.size wr wi) (fun _ i _ => nd.labels.length - (intOf i).toNat)
    case atStart => exact ⟨0, Nat.zero_le _, rfl, congrArg (Value.int .i64) (by simp), HB.out, (Below.refl _ _).alloc (Nat.le_refl _) _⟩
    case round =>
     obtain ⟨j, hj, rfl, rfl, hb, hbr⟩ := hrel
     have t2 := sum_take_le big nd.labels (j + 1)
     by_cases hjl : j < nd.labels.length
     ·have hy : nd.labels[j]? = some nd.labels[j] := List.getElem?_eq_getElem hjl
      obtain ⟨b2, o2, rfl, hc⟩ := (h6.below hbr).at_ j (.string nd.labels[j]) (by simp [hy])
      have t1 := sum_take_succ big nd.labels j _ hy
      generalize nd.labels[j] = s at *
      generalize hU : ((nd.labels.take j).map big).sum = U at *
      have HU := Tre.hid hU
      clear hU hy
      have hbg : big s = if 1000 < s.size then 1000 else 0 := rfl
      have T1 := Tre.hid t1
      by_cases hsz : 1000 < s.size
      ·rw [if_pos hsz] at hbg
       have bd' : g.ns.length + S + nd.args.length + nd.labels.length + 0 + U + 1000 ≤ 8388608 := by omega
       have HV := Tre.hid hbg
       clear hbg t1 t2
       go_wp2_with fail
       go_roundw
       case rel => exact ⟨j + 1, by omega, rfl, congrArg (Value.int .i64) (by rw [T1.out, HV.out]; omega), hb, hbr⟩
       case measure => simp [intOf]; omega
      ·rw [if_neg hsz] at hbg
       have bd' : g.ns.length + S + nd.args.length + nd.labels.length + 0 + U ≤ 8388608 := by omega
       have HV := Tre.hid hbg
       clear hbg t1 t2
       go_wp2_with fail
       go_roundw
       case rel => exact ⟨j + 1, by omega, rfl, congrArg (Value.int .i64) (by rw [T1.out, HV.out]; omega), hb, hbr⟩
       case measure => simp [intOf]; omega
     ·have hjj : j = nd.labels.length := by omega
      have e0 : Hid (((nd.labels.take j).map big).sum = (nd.labels.map big).sum) := by rw [List.take_of_length_le (by omega)]; rfl
      clear hjj t2
      go_wp2_with fail
      go_roundw
      case rel => exact ⟨k + 1, by omega, rfl, congrArg (Value.int .i64) (by rw [H1.out, HN.out, e0.out, HBG.out]; omega), hb⟩
      case measure => simp [intOf]; omega
  ·have hkk : k = g.ns.length := by omega
   go_wp2_with fail
   go_ret
   refine ⟨?_, hb⟩
   rw [List.take_of_length_le (by omega)]
   rfl
end Go.Proofs.YtlkfhbmjemjohaaGreatDoor.great
