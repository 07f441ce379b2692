/- SubPairs$1: a constructor over two types. -/
import Derived.Test.YtoieknnnadgfpaaGreatDoorB36
import Derived.Test.YtoieknnnadgfpaaGreatDoorB37
import Derived.IntWalk
set_option linter.unusedVariables false
namespace Go.Proofs.YtoieknnnadgfpaaGreatDoor.gr
open Go.RowKit Go.Shelf Go.Maps Go.Tre lex
def Shifted (n : Nat) (dn dh : List NodeV) : Prop := dn.map (fun d => (d.n, d.vl)) = dh.map (fun d => (shiftN n d.n, d.vl))
theorem Shifted.len {n : Nat} {dn dh : List NodeV} (h : Shifted n dn dh) : dn.length = dh.length := by have := congrArg List.length h; rwa [List.length_map, List.length_map] at this
theorem Shifted.snoc {n : Nat} {dn dh : List NodeV} {d e : NodeV} (h : Shifted n dn dh) (h1 : e.n = shiftN n d.n) (h2 : e.vl = d.vl) : Shifted n (dn ++ [e]) (dh ++ [d]) := by
 unfold Shifted at *
 rw [List.map_append, List.map_append, h, List.map_singleton, List.map_singleton, h1, h2]
theorem Shifted.ns {n : Nat} {dn dh : List NodeV} (h : Shifted n dn dh) : dn.map NodeV.n = (dh.map NodeV.n).map (shiftN n) := by
 have := congrArg (List.map Prod.fst) h
 rw [List.map_map, List.map_map] at this
 rw [List.map_map]
 exact this
theorem Shifted.labs {n : Nat} {dn dh : List NodeV} {w : World} (h : Shifted n dn dh) (hv : ∀ d ∈ dh, NodeVal w d) : LabsOf w dn := by
 intro d hd
 have hm : (d.n, d.vl) ∈ dh.map (fun d => (shiftN n d.n, d.vl)) := by rw [← h]; exact List.mem_map.2 ⟨d, hd, rfl⟩
 obtain ⟨e, he, e1⟩ := List.mem_map.1 hm
 rw [Prod.mk.injEq] at e1
 obtain ⟨aa, ca, al, cl, h1, h2, h3, h4, h5, h6⟩ := hv e he
 refine ⟨al, cl, ?_, ?_, ?_⟩
 ·rw [← e1.2, h2, ← e1.1]; rfl
 ·rw [← e1.1]; exact h4
 ·rw [← e1.1]; exact h6
def ofR (a : Option Addr) (c bk : Nat) (dg dh dn : List NodeV) (s : ByteArray) (p q : Int) : Res :=
 manyR [rowR 33 5 (.slice a (dg.length + dh.length + 1) c) (dg.length + dh.length + 1) (dg.flatMap NodeV.cells ++ dn.flatMap NodeV.cells ++ (#[.int .i64 2, .string s, .slice (some ⟨bk, 0, none⟩) 2 2, .slice none 0 0, .bool false] : Array Value).toList), argsR dn, rowR 3 1 (.slice (some ⟨bk, 0, none⟩) 2 2) 2 [.int .i64 p, .int .i64 q], factR (Shifted dg.length dn dh)]
theorem many4 {w0 w : World} {rs : List Res} {r s t u : Res} (h : Mem w0 w (r :: s :: t :: u :: rs)) : Mem w0 w (manyR [r, s, t, u] :: rs) := by
 have h1 : Mem w0 w (manyR [] :: r :: s :: t :: u :: rs) := h.addMany
 have h2 : Mem w0 w (manyR [r] :: s :: t :: u :: rs) := (h1.front 1 rfl).into
 have h3 : Mem w0 w (manyR [r, s] :: t :: u :: rs) := (h2.front 1 rfl).into
 have h4 : Mem w0 w (manyR [r, s, t] :: u :: rs) := (h3.front 1 rfl).into
 exact (h4.front 1 rfl).into
theorem of_nodes {W : World} {w : World} {a : Option Addr} {c bk r1 r2 : Nat} {s : ByteArray} {g h : Tre.Graph} {dg dh dn : List NodeV} (hR : (ofR a c bk dg dh dn s (r1 : Int) ((dg.length : Int) + (r2 : Int))).P W) (hb : Below w.heap.size w W) (hg : dg.map NodeV.n = g.ns) (hh : dh.map NodeV.n = h.ns) (vg : ∀ d ∈ dg, NodeVal w d) (vh : ∀ d ∈ dh, NodeVal w d)
  (e1 : g.root.toNat = r1) (e2 : h.root.toNat = r2) : NodesAt W a (ofG s g h).ns := by
 have h0 := hR _ (List.mem_cons_self ..)
 have h1 := hR _ (List.mem_cons_of_mem _ (List.mem_cons_self ..))
 have h2 := hR _ (List.mem_cons_of_mem _ (List.mem_cons_of_mem _ (List.mem_cons_self ..)))
 have h3 : Shifted dg.length dn dh := hR _ (List.mem_cons_of_mem _ (List.mem_cons_of_mem _ (List.mem_cons_of_mem _ (List.mem_singleton.2 rfl))))
 obtain ⟨aa, ca, ea, la, ra⟩ := row_read h2
 cases ea
 have hvn := labs_vals (h3.labs vh) hb h1
 have lg : g.ns.length = dg.length := by rw [← hg, List.length_map]
 have NA := nodesAt_of (w := W) (a := a) (c := c) (ds := dg ++ dn ++ [⟨conN s (r1 : Int) ((dg.length : Int) + (r2 : Int)), .slice (some ⟨bk, 0, none⟩) 2 2, .slice none 0 0⟩]) (by
  have e : (dg ++ dn ++ [(⟨conN s (r1 : Int) ((dg.length : Int) + (r2 : Int)), .slice (some ⟨bk, 0, none⟩) 2 2, .slice none 0 0⟩ : NodeV)]).length = dg.length + dh.length + 1 := by rw [List.length_append, List.length_append, h3.len]; rfl
  unfold nodesR
  rw [e, List.flatMap_append, List.flatMap_append]
  exact h0) (fun d hd => by
  rcases List.mem_append.1 hd with hd | hd
  ·rcases List.mem_append.1 hd with hd | hd
   ·exact (vg d hd).below hb
   ·exact hvn d hd
  ·rw [List.mem_singleton] at hd; subst hd
   exact ⟨some ⟨bk, 0, none⟩, 2, none, 0, rfl, rfl, ra, row_none _ _, Nat.le_refl _, Nat.le_refl _⟩)
 rw [List.map_append, List.map_append, hg, h3.ns, hh, ← lg] at NA
 have e : (ofG s g h).ns = g.ns ++ h.ns.map (shiftN g.ns.length) ++ [conN s (r1 : Int) ((g.ns.length : Int) + (r2 : Int))] := by
  show (g.ns ++ h.ns.map (shiftN g.ns.length)) ++ [conN s ((g.root.toNat : Nat) : Int) (((h.root.toNat + g.ns.length : Nat)) : Int)] = _
  rw [e1, e2, Int.natCast_add, Int.add_comm (r2 : Int)]
 rw [e]
 exact NA
theorem infoI13 : (Tryz.prog.info? 3).map (fun i => (i.zero, i.size, i.bytes)) = some (some (.int .i64 0), 1, 8) := by kernel_rfl
theorem cn_one (s : ByteArray) (bk : Nat) : ∀ u ∈ (#[.int .i64 2, .string s, .slice (some ⟨bk, 0, none⟩) 2 2, .slice none 0 0, .bool false] : Array Value).toList, u.oneCell' = true := by simp [Value.oneCell']
set_option maxRecDepth 100000 in
set_option maxHeartbeats 16000000 in
theorem of_any (b1 o1 ca r1 b2 o2 cb r2 : Nat) (dg dh : List NodeV) (s : ByteArray) (w : World) (hcg : ∀ j u, (dg.flatMap NodeV.cells)[j]? = some u → w.cell? ⟨b1, o1 + j, none⟩ = some u) (hvg : ∀ d ∈ dg, NodeVal w d)
  (hch : ∀ j u, (dh.flatMap NodeV.cells)[j]? = some u → w.cell? ⟨b2, o2 + j, none⟩ = some u) (hvh : ∀ d ∈ dh, NodeVal w d) (hn0 : dg.length ≤ 1000) (hm0 : dh.length ≤ 1000) (hr2 : r2 ≤ 1000) (hk : ∀ d ∈ dh, ∀ j (hj : j < d.n.args.length), ∃ y : Nat, d.n.args[j] = (y : Int) ∧ y < dh.length) (hal : ∀ d ∈ dh, d.n.args.length ≤ 1048576) :
  Calls Tryz.prog 13 #[.string s, .agg #[.slice (some ⟨b1, o1, none⟩) dg.length ca, .int .i64 (r1 : Int)], .agg #[.slice (some ⟨b2, o2, none⟩) dh.length cb, .int .i64 (r2 : Int)]] w fun e w' =>
   ∃ a c bk dn, e = .returned (.agg #[.slice a (dg.length + dh.length + 1) c, .int .i64 ((dg.length : Int) + (dh.length : Int))]) ∧ Mem w w' [ofR a c bk dg dh dn s (r1 : Int) ((dg.length : Int) + (r2 : Int))] := by
 obtain ⟨n, hln⟩ : ∃ n : Nat, dg.length = n := ⟨_, rfl⟩
 obtain ⟨m, hlm⟩ : ∃ m : Nat, dh.length = m := ⟨_, rfl⟩
 have HLN := Tre.hid hln
 have HLM := Tre.hid hlm
 have hnl : n ≤ 1000 := by omega
 have hml : m ≤ 1000 := by omega
 have HONE := Tre.hid (cells_one dg (fun d hd => ⟨w, hvg d hd⟩))
 have HROW : Hid (∀ W, Below w.heap.size w W → Row W 5 (some ⟨b1, o1, none⟩) n (dg.flatMap NodeV.cells)) := fun W hW => ⟨by rw [cells_len, hln], fun j u hu => ⟨b1, o1, rfl, cell_below hW (hcg j u hu)⟩⟩
 have HCH := Tre.hid hch
 have HVH := Tre.hid hvh
 have HKK := Tre.hid hk
 have HAL := Tre.hid hal
 have M := (((Mem.nil w).allocR #[.slice (some ⟨b1, o1, none⟩) n ca, .int .i64 (r1 : Int)] 24).allocR #[.slice (some ⟨b2, o2, none⟩) m cb, .int .i64 (r2 : Int)] 24).allocR #[.slice none 0 0, .int .i64 0] 24
 simp only [heapSize_alloc, Nat.add_assoc, Nat.reduceAdd] at M
 have HM0 := Tre.hid M
 obtain ⟨ni, I1, I2, I3, I4⟩ := info_parts infoN
 have J1 := Tre.hid I1
 have J2 := Tre.hid I2
 have J3 := Tre.hid I3
 have J4 := Tre.hid I4
 obtain ⟨ji, K1, K2, K3, K4⟩ := info_parts infoI13
 have L1 := Tre.hid K1
 have L2 := Tre.hid K2
 have L3 := Tre.hid K3
 have L4 := Tre.hid K4
 rw [hln, hlm]
 clear M I1 I2 I3 I4 K1 K2 K3 K4 hcg hvg hch hvh hk hal hln hlm hn0 hm0
 go_enter Tryz.func13, Tryz.ntmps13
 go_upto_region 1 with fail
 generalize hw : World.alloc _ _ = w1 at HM0 ⊢
 clear hw
 obtain ⟨g0, g1⟩ := HM0.out.two 2 rfl
 have HM2 := HM0
 go_upto_region 2 with fail
 clear g0 g1 HM0
 have cS : Cond (fun w' => w'.cell? ⟨w.heap.size, 0, none⟩ = some (.slice (some ⟨b1, o1, none⟩) n ca) ∧ w'.cell? ⟨w.heap.size + 1, 0, none⟩ = some (.slice (some ⟨b2, o2, none⟩) m cb)) := ⟨⟩
 refine cS.keep [11] ?_ (fun hH => ?_)
 ·exact ⟨HM2.out.drew.cell 2 rfl 0 rfl, HM2.out.drew.cell 1 rfl 0 rfl⟩
 have HC := Tre.hid HM2.out.drew
 generalize hq : World.drew _ = wq0 at HC hH ⊢
 clear hq
 refine lPv 1 (some 18) (.pointer (some ⟨w.heap.size, 0, none⟩)) (keep_of hH) ?_
 try simp only [Act.put, zqf, zqg, zqh]
 refine lTk 2 (some 19) (v := ?_) ?_ hH ?_
 rotate_left
 ·intro w hSw; (try dsimp only at hSw); simp only [zqa, zqb, zqc, zqd, zqe]; go_simp <;> with_reducible rfl
 try simp only [Act.put, zqf, zqg, zqh]
 refine lPv 4 (some 21) (.int .i64 (n : Int)) (keep_of hH) ?_
 refine lPv 5 (some 22) (.pointer (some ⟨w.heap.size + 1, 0, none⟩)) (keep_of hH) ?_
 try simp only [Act.put, zqf, zqg, zqh]
 refine lTk 6 (some 23) (v := ?_) ?_ hH ?_
 rotate_left
 ·intro w hSw; (try dsimp only at hSw); simp only [zqa, zqb, zqc, zqd, zqe]; go_simp <;> with_reducible rfl
 try simp only [Act.put, zqf, zqg, zqh]
 refine lPv 7 (some 24) (.int .i64 (m : Int)) (keep_of hH) ?_
 refine lPu 8 (some 25) (.int .i64 ((n : Int) + (m : Int))) (by kernel_rfl) (fun _ _ _ h => h) (fun w => Eq.trans (b := some (true, .ok (.value (.int .i64 (IntKind.i64.wrap ((n : Int) + (m : Int))))) w)) (by kernel_rfl) (by rw [IntWalk.i64_in _ (by omega)])) (keep_of hH) ?_
 try simp only [Act.put, zqf, zqg, zqh]
 refine with_G (G0 := wpAnyL _ _ _ _ _ _) ?_
 intro G hG a0 hA
 have Z0 : Kept (∀ (b17 : Nat) (a20 : Option Addr) (c20 : Nat) (b8 : Nat) (wq : World), Hid (Mem w wq [cellsR b8 24 #[.slice a20 n c20, .int .i64 ((n : Int) + (m : Int))], rowR 33 5 (.slice a20 n c20) n (dg.flatMap NodeV.cells), cellsR (w.heap.size + 2) 24 #[.slice none 0 0, .int .i64 0], cellsR (w.heap.size + 1) 24 #[.slice (some ⟨b2, o2, none⟩) m cb, .int .i64 (r2 : Int)], cellsR w.heap.size 24 #[.slice (some ⟨b1, o1, none⟩) n ca, .int .i64 (r1 : Int)]]) → G 0 (bt 12 4095) ((((a0.put (some 17) (.slice (some ⟨b17, 0, none⟩) 0 0)).put (some 20) (.slice a20 n c20)).put (some 26) (.agg #[.slice a20 n c20, .int .i64 ((n : Int) + (m : Int))])).put (some 8) (.pointer (some ⟨b8, 0, none⟩))) wq) := ⟨by
  intro b17 a20 c20 b8 wq HC
  refine into_G hG ?_
  rw [hA.out]
  try simp only [Act.put, zqf, zqg, zqh]
  refine lDone (by kernel_rfl) ?_
  clear hA hG
  have HQ := HC
  clear HC
  obtain ⟨h0, h1⟩ := HQ.out.two 3 rfl
  have HL0 : Hid (Mem w wq [rowR 33 5 (.slice a20 (n + 0) c20) (n + 0) (dg.flatMap NodeV.cells ++ ([] : List NodeV).flatMap NodeV.cells), argsR ([] : List NodeV), cellsR b8 24 #[.slice a20 (n + 0) c20, .int .i64 ((n : Int) + (m : Int))], cellsR (w.heap.size + 2) 24 #[.slice none 0 0, .int .i64 0], cellsR (w.heap.size + 1) 24 #[.slice (some ⟨b2, o2, none⟩) m cb, .int .i64 (r2 : Int)], cellsR w.heap.size 24 #[.slice (some ⟨b1, o1, none⟩) n ca, .int .i64 (r1 : Int)]]) := by
   have h : Mem w wq _ := (HQ.out.addMany).front 2 rfl
   show Mem w wq _
   rw [List.flatMap_nil, List.append_nil]
   exact h
  go_wp2_with fail
  clear h0 h1 HQ
  go_loopw [30] (fun v30 wr => ∃ (k : Nat) (aN : Option Addr) (cN : Nat) (dn : List NodeV), k ≤ m ∧ v30 = .int .i64 (k : Int) ∧ Hid (Shifted n dn (dh.take k)) ∧ Hid (Mem w wr [rowR 33 5 (.slice aN (n + k) cN) (n + k) (dg.flatMap NodeV.cells ++ dn.flatMap NodeV.cells), argsR dn, cellsR b8 24 #[.slice aN (n + k) cN, .int .i64 ((n : Int) + (m : Int))], cellsR (w.heap.size + 2) 24 #[.slice none 0 0, .int .i64 0], cellsR (w.heap.size + 1) 24 #[.slice (some ⟨b2, o2, none⟩) m cb, .int .i64 (r2 : Int)], cellsR w.heap.size 24 #[.slice (some ⟨b1, o1, none⟩) n ca, .int .i64 (r1 : Int)]]))
   (fun v30 _ => m - (intOf v30).toNat)
  case atStart => exact ⟨0, a20, c20, [], Nat.zero_le _, rfl, rfl, HL0.out⟩
  case round =>
   obtain ⟨k, aN, cN, dn, hk, rfl, hSH, HI⟩ := hrel
   have hdl : Hid (dn.length ≤ 1000) := by have := hSH.out.len; rw [List.length_take] at this; show _ ≤ _; omega
   by_cases hlt : k < m
   ·obtain ⟨d, hd⟩ : ∃ d, Hid (dh[k]? = some d) := ⟨_, List.getElem?_eq_getElem (by rw [HLM.out]; exact hlt)⟩
    have hdm : d ∈ dh := List.mem_of_getElem? hd.out
    obtain ⟨ax, cx, lx, dx, e1, e2, xA, xL, hca, hcl⟩ := HVH.out d hdm
    have HKD := Tre.hid (HKK.out d hdm)
    have HVN : Hid (∃ ax' cx', d.va = .slice ax' d.n.args.length cx') := ⟨_, _, e1⟩
    have HDV := Tre.hid e2
    have hxw : d.n.args.length ≤ 1048576 := HAL.out d hdm
    have hc := fun j u (hj : j < 5) (hu : d.cells[j]? = some u) => HCH.out (k * 5 + j) u (by rw [cells_at dh k j d hd.out hj]; exact hu)
    have x0 := hc 0 (.int .i64 d.n.kind) (by omega) rfl
    have x1 := hc 1 (.string d.n.name) (by omega) rfl
    have x2 := hc 2 (.slice ax d.n.args.length cx) (by omega) (by rw [← e1]; rfl)
    have x3 := hc 3 (.slice lx d.n.labels.length dx) (by omega) (by rw [← e2]; rfl)
    have x4 := hc 4 (.bool d.n.isOpen) (by omega) rfl
    rw [← Nat.add_assoc] at x0 x1 x2 x3 x4
    rw [Nat.add_zero] at x0
    have HDN : Hid (d.n = d.n) := rfl
    have HLX := Tre.hid xL
    have HXA := Tre.hid xA
    clear hc hdm e1 e2 xA xL
    obtain ⟨X, hX⟩ : ∃ X, d.n = X := ⟨_, rfl⟩
    rw [hX] at x0 x1 x2 x3 x4 HLX HXA HKD HVN HDV hxw hca hcl
    have HXE := Tre.hid hX
    clear hX HDN
    have x0 := cell_below HI.out.below x0
    have x1 := cell_below HI.out.below x1
    have x2 := cell_below HI.out.below x2
    have x3 := cell_below HI.out.below x3
    have x4 := cell_below HI.out.below x4
    obtain ⟨h0, h1⟩ := HI.out.two 4 rfl
    have m1 : (0 : Int) ≤ (k : Int) := by omega
    have m2 : (k : Int) < (m : Int) := by omega
    have HA := Tre.hid (HI.out.allocR #[.int .i64 X.kind, .string X.name, .slice ax X.args.length cx, .slice lx X.labels.length dx, .bool X.isOpen] 33)
    go_upto_region 6 with fail
    clear x0 x1 x2 x3 x4 h0 h1
    generalize hw : wr.alloc (.cells #[.int .i64 X.kind, .string X.name, .slice ax X.args.length cx, .slice lx X.labels.length dx, .bool X.isOpen] 33) = w10 at HA ⊢
    generalize hb : wr.heap.size = b10 at HA ⊢
    clear hw hb HI
    have f2 := HA.out.cell 0 rfl 2 rfl
    have MA := HA.out.allocRow #[] 3 1 0 (by unfold maxLen; omega) rfl
    have HMA := Tre.hid MA
    have h2 := MA.cell 1 rfl 2 rfl
    clear MA
    go_wp2_with fail
    clear f2 h2
    obtain ⟨L, hL⟩ : ∃ L : List Int, X.args.map (fun y => y + (n : Int)) = L := ⟨_, rfl⟩
    have HLD := Tre.hid hL
    have HLL : Hid (L.length = X.args.length) := by show _ = _; rw [← hL, List.length_map]
    have HLA : Hid (∀ j y : Nat, (hj : j < X.args.length) → X.args[j] = (y : Int) → L[j]? = some ((y : Int) + (n : Int))) := fun j y hj hy => by
     rw [← hL, List.getElem?_map, List.getElem?_eq_getElem hj, zqd, hy]
    clear hL
    have HMI : Hid (Mem w _ [rowR 3 1 (.slice (some ⟨w10.heap.size, 0, none⟩) 0 0) 0 ((L.take 0).map (Value.int .i64)), cellsR b10 33 #[.int .i64 X.kind, .string X.name, .slice ax X.args.length cx, .slice lx X.labels.length dx, .bool X.isOpen], rowR 33 5 (.slice aN (n + k) cN) (n + k) (dg.flatMap NodeV.cells ++ dn.flatMap NodeV.cells), argsR dn, cellsR b8 24 #[.slice aN (n + k) cN, .int .i64 ((n : Int) + (m : Int))], cellsR (w.heap.size + 2) 24 #[.slice none 0 0, .int .i64 0], cellsR (w.heap.size + 1) 24 #[.slice (some ⟨b2, o2, none⟩) m cb, .int .i64 (r2 : Int)], cellsR w.heap.size 24 #[.slice (some ⟨b1, o1, none⟩) n ca, .int .i64 (r1 : Int)]]) := HMA.out
    clear HMA HA
    go_loopw [11, 38] (fun v11 v38 wr => ∃ (j : Nat) (aU : Option Addr) (cU : Nat), j ≤ X.args.length ∧ v11 = .slice aU j cU ∧ v38 = .int .i64 (j : Int) ∧ Hid (Mem w wr [rowR 3 1 (.slice aU j cU) j ((L.take j).map (Value.int .i64)), cellsR b10 33 #[.int .i64 X.kind, .string X.name, .slice ax X.args.length cx, .slice lx X.labels.length dx, .bool X.isOpen], rowR 33 5 (.slice aN (n + k) cN) (n + k) (dg.flatMap NodeV.cells ++ dn.flatMap NodeV.cells), argsR dn, cellsR b8 24 #[.slice aN (n + k) cN, .int .i64 ((n : Int) + (m : Int))], cellsR (w.heap.size + 2) 24 #[.slice none 0 0, .int .i64 0], cellsR (w.heap.size + 1) 24 #[.slice (some ⟨b2, o2, none⟩) m cb, .int .i64 (r2 : Int)], cellsR w.heap.size 24 #[.slice (some ⟨b1, o1, none⟩) n ca, .int .i64 (r1 : Int)]]))
     (fun _ v38 _ => X.args.length - (intOf v38).toNat)
    case atStart => exact ⟨0, _, 0, Nat.zero_le _, rfl, rfl, HMI.out⟩
    case round =>
     obtain ⟨j, aU, cU, hj, rfl, rfl, HJ⟩ := hrel
     by_cases hjl : j < X.args.length
     ·obtain ⟨y, hy, hyl⟩ := HKD.out j hjl
      have HZ := Tre.hid (HLA.out j y hjl hy)
      obtain ⟨bx, ox, rfl, hxc⟩ := (HXA.out.below HJ.out.below).at_ j (.int .i64 (y : Int)) (by rw [List.getElem?_map, List.getElem?_eq_getElem hjl, hy]; rfl)
      have n3 : (0 : Int) ≤ (j : Int) := by omega
      have n4 : (j : Int) < (X.args.length : Int) := by omega
      rw [HLM.out] at hyl
      clear hy
      have hs1 : (y : Int) + (n : Int) ≤ 2000 := by omega
      have MB := Tre.hid (HJ.out.allocRow #[.int .i64 ((y : Int) + (n : Int))] 3 1 1 (by unfold maxLen; omega) rfl)
      go_wp2_with (at_builtin; refine wpList_append_row _ rfl _ _ 30 rfl 3 ji _ 1 8 Tryz.underlying30 L1.out L2.out L3.out L4.out rfl (by omega) (.slice aU j cU) j ((L.take j).map (Value.int .i64)) rfl (MB.out.row 1 rfl) (some ⟨wr.heap.size, 0, none⟩) 1 1 [.int .i64 ((y : Int) + (n : Int))] rfl ⟨rfl, fun j u hj => ⟨_, 0, rfl, by rw [Nat.zero_add]; exact MB.out.cellAt 0 rfl j hj⟩⟩ (by simp [Value.oneCell']) (by unfold maxLen; omega) (by omega) ?_; intro v' w9 hown4 hgrow4 hat4; have M4 := MB.out.grow 1 rfl hgrow4 hown4 hat4; obtain ⟨a4, c4, rfl, _⟩ := M4.val 1 rfl; have HM4 := Tre.hid M4; clear M4 hown4 hgrow4 hat4)
      go_roundw
      case rel =>
       refine ⟨j + 1, a4, c4, by omega, rfl, by go_num, ?_⟩
       show Mem _ _ _
       rw [List.take_add_one, HZ.out, List.map_append]
       exact HM4.out.del 0
      case measure => simp [intOf]; omega
     ·have e : j = X.args.length := by omega
      subst e
      have hta : L.take X.args.length = L := List.take_of_length_le (by rw [HLL.out]; exact Nat.le_refl _)
      have HI' : Hid (Mem w wr [rowR 3 1 (.slice aU X.args.length cU) X.args.length (L.map (Value.int .i64)), cellsR b10 33 #[.int .i64 X.kind, .string X.name, .slice ax X.args.length cx, .slice lx X.labels.length dx, .bool X.isOpen], rowR 33 5 (.slice aN (n + k) cN) (n + k) (dg.flatMap NodeV.cells ++ dn.flatMap NodeV.cells), argsR dn, cellsR b8 24 #[.slice aN (n + k) cN, .int .i64 ((n : Int) + (m : Int))], cellsR (w.heap.size + 2) 24 #[.slice none 0 0, .int .i64 0], cellsR (w.heap.size + 1) 24 #[.slice (some ⟨b2, o2, none⟩) m cb, .int .i64 (r2 : Int)], cellsR w.heap.size 24 #[.slice (some ⟨b1, o1, none⟩) n ca, .int .i64 (r1 : Int)]]) := by have h := HJ.out; rw [hta] at h; exact h
      clear hta HJ
      have f2 := HI'.out.free 1 rfl 2
      obtain ⟨y0, y1, y2, y3, y4⟩ := five HI'.out 1 rfl
      have M8 := HI'.out.setCell 1 rfl 2 (.slice aU X.args.length cU)
      obtain ⟨ww2, hww⟩ : ∃ ww : World, wr.setCell ⟨b10, 2, none⟩ (.slice aU X.args.length cU) = ww := ⟨_, rfl⟩
      rw [hww] at M8
      obtain ⟨t0, t1, t2', t3, t4⟩ := five M8 1 rfl
      have MB := Tre.hid (M8.allocRow #[.int .i64 X.kind, .string X.name, .slice aU X.args.length cU, .slice lx X.labels.length dx, .bool X.isOpen] 33 5 1 (by unfold maxLen; omega) rfl)
      obtain ⟨p0, p1⟩ := M8.two 4 rfl
      clear HI' M8
      go_wp2_with (at_builtin; refine wpList_append_row _ rfl _ _ 22 rfl 33 ni _ 5 80 Tryz.underlying22 J1.out J2.out J3.out J4.out rfl (by omega) (.slice aN (n + k) cN) (n + k) (dg.flatMap NodeV.cells ++ dn.flatMap NodeV.cells) rfl (MB.out.row 3 rfl) (some ⟨ww2.heap.size, 0, none⟩) 1 1 [.int .i64 X.kind, .string X.name, .slice aU X.args.length cU, .slice lx X.labels.length dx, .bool X.isOpen] rfl ⟨rfl, fun j u hj => ⟨_, 0, rfl, by rw [Nat.zero_add]; exact MB.out.cellAt 0 rfl j hj⟩⟩ (by simp [Value.oneCell']) (by unfold maxLen; omega) (by omega) ?_; intro v' w9 hown4 hgrow4 hat4; have M4 := MB.out.grow 3 rfl hgrow4 hown4 hat4; obtain ⟨a4, c4, rfl, _⟩ := M4.val 3 rfl; have q6 : w9.cell? ⟨b8, 0, none⟩ = some (.slice aN (n + k) cN) := M4.cell 5 rfl 0 rfl; have f6 := M4.free 5 rfl 0; have HM4 := Tre.hid (M4.setCell 5 rfl 0 (.slice a4 (n + k + 1) c4)); clear M4 hown4 hgrow4 hat4)
      clear hww
      go_roundw
      case rel =>
       refine ⟨k + 1, a4, c4, dn ++ [⟨{ X with args := L }, .slice aU X.args.length cU, .slice lx X.labels.length dx⟩], by omega, by go_num, ?_, ?_⟩
       ·show Shifted _ _ _
        rw [List.take_add_one, hd.out]
        refine hSH.out.snoc ?_ ?_
        ·show ({ X with args := L } : Tre.Node) = shiftN n d.n
         rw [HXE.out, ← HLD.out]; rfl
        ·exact HDV.out.symm
       ·show Mem _ _ _
        rw [List.flatMap_append, argsR_snoc, ← Nat.add_assoc]
        have e3 : ({ X with args := L } : Tre.Node).args.length = X.args.length := HLL.out
        rw [e3, ← List.append_assoc]
        exact ((HM4.out.del 0).del 1).push1
      case measure => simp [intOf]; omega
   ·have e : k = m := by omega
    subst e
    have hta : dh.take k = dh := List.take_of_length_le (by rw [HLM.out]; exact Nat.le_refl _)
    have HSH : Hid (Shifted n dn dh) := by have h := hSH.out; rw [hta] at h; exact h
    clear hta hSH
    obtain ⟨p0, p1⟩ := HI.out.two 2 rfl
    obtain ⟨h0, h1⟩ := HI.out.two 4 rfl
    obtain ⟨g0, g1⟩ := HI.out.two 5 rfl
    have MA := HI.out.allocRow #[.int .i64 (r1 : Int), .int .i64 ((n : Int) + (r2 : Int))] 3 1 2 (by unfold maxLen; omega) rfl
    have MB0 := MA.allocRow #[.int .i64 2, .string s, .slice (some ⟨wr.heap.size, 0, none⟩) 2 2, .slice none 0 0, .bool false] 33 5 1 (by unfold maxLen; omega) rfl
    simp only [heapSize_alloc] at MB0
    have MB := Tre.hid MB0
    clear MA MB0
    go_upto_region 16 with (at_builtin; refine wpList_append_row _ rfl _ _ 22 rfl 33 ni _ 5 80 Tryz.underlying22 J1.out J2.out J3.out J4.out rfl (by omega) (.slice aN (n + k) cN) (n + k) (dg.flatMap NodeV.cells ++ dn.flatMap NodeV.cells) rfl (MB.out.row 2 rfl) (some ⟨wr.heap.size + 1, 0, none⟩) 1 1 [.int .i64 2, .string s, .slice (some ⟨wr.heap.size, 0, none⟩) 2 2, .slice none 0 0, .bool false] rfl (nrow5 (MB.out.row 0 rfl)) (cn_one _ _) (by unfold maxLen; omega) (by omega) ?_; intro v' w9 hown4 hgrow4 hat4; have M4 := MB.out.grow 2 rfl hgrow4 hown4 hat4; obtain ⟨a4, c4, rfl, _⟩ := M4.val 2 rfl; have q0 := M4.cell 4 rfl 0 rfl; have q1 := M4.cell 4 rfl 1 rfl; have f0 := M4.free 4 rfl 0; have HM5 := Tre.hid (M4.setCell 4 rfl 0 (.slice a4 (n + k + 1) c4)); clear M4 hown4 hgrow4 hat4)
    clear q0 q1 f0 p0 p1 h0 h1 g0 g1
    generalize hw : w9.setCell ⟨b8, 0, none⟩ (.slice a4 (n + k + 1) c4) = wa at HM5 ⊢
    clear hw
    obtain ⟨p0, p1⟩ := HM5.out.two 4 rfl
    obtain ⟨u0, u1⟩ := HM5.out.two 5 rfl
    have f2 := HM5.out.free 5 rfl 0
    have f3 := HM5.out.free 5 rfl 1
    have HM4 := Tre.hid ((HM5.out.setCell 5 rfl 0 (.slice a4 (n + k + 1) c4)).setCell 5 rfl 1 (.int .i64 ((n : Int) + (k : Int))))
    go_wp2_with fail
    have z0 := HM4.out.cell 5 rfl 0 rfl
    have z1 := HM4.out.cell 5 rfl 1 rfl
    have MF := many4 (rs := []) (((((((((((HM4.out.addFact HSH.out).front 1 rfl).front 1 rfl).front 2 rfl).front 4 rfl).front 4 rfl).del 8).del 7).del 6).del 5).del 4)
    have HF : Hid (Mem w ((wa.setCell ⟨w.heap.size + 2, 0, none⟩ (.slice a4 (n + k + 1) c4)).setCell ⟨w.heap.size + 2, 1, none⟩ (.int .i64 ((n : Int) + (k : Int)))) [ofR a4 c4 wr.heap.size dg dh dn s (r1 : Int) ((n : Int) + (r2 : Int))]) := by
     show Mem _ _ _
     unfold ofR
     rw [HLN.out, HLM.out]
     exact MF
    refine bodyPost_ret (v := .agg #[.slice a4 (n + k + 1) c4, .int .i64 ((n : Int) + (k : Int))]) (by simp [results, Tryz.results13, go_sem, z0, z1]) rfl ?_
    first | exact ⟨a4, c4, _, dn, rfl, HF.out⟩ | exact ⟨a4, c4, rfl, _, dn, HF.out⟩ | exact ⟨a4, ⟨c4, rfl⟩, _, dn, HF.out⟩
 ⟩
 have Z1 : Kept (∀ (b17 : Nat) (a20 : Option Addr) (c20 : Nat) (b8 : Nat) (wq : World), Hid (Mem w wq [cellsR b8 24 #[.slice none 0 0, .int .i64 0], rowR 33 5 (.slice a20 n c20) n (dg.flatMap NodeV.cells), cellsR (w.heap.size + 2) 24 #[.slice none 0 0, .int .i64 0], cellsR (w.heap.size + 1) 24 #[.slice (some ⟨b2, o2, none⟩) m cb, .int .i64 (r2 : Int)], cellsR w.heap.size 24 #[.slice (some ⟨b1, o1, none⟩) n ca, .int .i64 (r1 : Int)]]) → G 1 (bt 12 2047) ((((a0.put (some 17) (.slice (some ⟨b17, 0, none⟩) 0 0)).put (some 20) (.slice a20 n c20)).put (some 26) (.agg #[.slice a20 n c20, .int .i64 ((n : Int) + (m : Int))])).put (some 8) (.pointer (some ⟨b8, 0, none⟩))) wq) := ⟨by
  intro b17 a20 c20 b8 wq HC
  refine into_G hG ?_
  rw [hA.out]
  try simp only [Act.put, zqf, zqg, zqh]
  have hH := cS.is (w := wq) (⟨HC.out.cell 4 rfl 0 rfl, HC.out.cell 3 rfl 0 rfl⟩)
  refine lOne 11 (by kernel_rfl) ?_
  ·
   refine (LFall.op (by kernel_rfl) (fun K hK => ?_))
   have z0 := HC.out.free 0 rfl 0
   have z1 := HC.out.free 0 rfl 1
   obtain ⟨y0, y1⟩ := HC.out.two 0 rfl
   have HN := Tre.hid ((HC.out.setCell 0 rfl 0 (.slice a20 n c20)).setCell 0 rfl 1 (.int .i64 ((n : Int) + (m : Int))))
   go_simp
   clear z0 z1 y0 y1
   generalize hw : World.setCell _ ⟨b8, 1, none⟩ _ = wr at HN ⊢
   clear hw
   refine hK.out _ _ ?_
   exact outof_G hG (Z0.out b17 a20 c20 b8 wr HN) (by kernel_rfl) (by rw [hA.out]; try kernel_rfl)
 ⟩
 have Z2 : Kept (∀ (b17 : Nat) (a20 : Option Addr) (c20 : Nat) (wq : World), Hid (Mem w wq [rowR 33 5 (.slice a20 n c20) n (dg.flatMap NodeV.cells), cellsR (w.heap.size + 2) 24 #[.slice none 0 0, .int .i64 0], cellsR (w.heap.size + 1) 24 #[.slice (some ⟨b2, o2, none⟩) m cb, .int .i64 (r2 : Int)], cellsR w.heap.size 24 #[.slice (some ⟨b1, o1, none⟩) n ca, .int .i64 (r1 : Int)]]) → G 2 (bt 12 1023) (((a0.put (some 17) (.slice (some ⟨b17, 0, none⟩) 0 0)).put (some 20) (.slice a20 n c20)).put (some 26) (.agg #[.slice a20 n c20, .int .i64 ((n : Int) + (m : Int))])) wq) := ⟨by
  intro b17 a20 c20 wq HC
  refine into_G hG ?_
  rw [hA.out]
  have hH := cS.is (w := wq) (⟨HC.out.cell 3 rfl 0 rfl, HC.out.cell 2 rfl 0 rfl⟩)
  refine lOne 10 (by kernel_rfl) ?_
  ·
   have HN := Tre.hid (HC.out.allocR #[.slice none 0 0, .int .i64 0] 24)
   have hH2 := cS.is (w := (wq.alloc (.cells #[.slice none 0 0, .int .i64 0] 24))) (⟨HN.out.cell 4 rfl 0 rfl, HN.out.cell 3 rfl 0 rfl⟩)
   refine LStep.made (some 8) (.pointer (some ⟨wq.heap.size, 0, none⟩)) _ (by kernel_rfl) (by kernel_rfl) hH2 ?_
   exact outof_G hG (Z1.out b17 a20 c20 wq.heap.size _ HN) (by kernel_rfl) (by rw [hA.out]; try kernel_rfl)
 ⟩
 have Z3 : Kept (∀ (b17 : Nat) (b8 : Nat) (wq : World), Hid (Mem w wq [cellsR b8 24 #[.slice none 0 0, .int .i64 0], rowR 33 5 (.slice (some ⟨b17, 0, none⟩) 0 0) 0 [], cellsR (w.heap.size + 2) 24 #[.slice none 0 0, .int .i64 0], cellsR (w.heap.size + 1) 24 #[.slice (some ⟨b2, o2, none⟩) m cb, .int .i64 (r2 : Int)], cellsR w.heap.size 24 #[.slice (some ⟨b1, o1, none⟩) n ca, .int .i64 (r1 : Int)]]) → G 3 (bt 12 1527) ((a0.put (some 17) (.slice (some ⟨b17, 0, none⟩) 0 0)).put (some 8) (.pointer (some ⟨b8, 0, none⟩))) wq) := ⟨by
  intro b17 b8 wq HC
  refine into_G hG ?_
  rw [hA.out]
  have hH := cS.is (w := wq) (⟨HC.out.cell 4 rfl 0 rfl, HC.out.cell 3 rfl 0 rfl⟩)
  refine lOne 3 (by kernel_rfl) ?_
  ·
   refine LStep.app (some 20) (.tmp 17) (.tmp 19) 22 (by kernel_rfl) 33 ni _ 5 80 Tryz.underlying22 J1.out J2.out J3.out J4.out rfl (by omega) (.slice (some ⟨b17, 0, none⟩) 0 0) 0 [] (by kernel_rfl) (HC.out.row 1 rfl) (some ⟨b1, o1, none⟩) n ca (dg.flatMap NodeV.cells) (by kernel_rfl) (HROW.out _ HC.out.below) HONE.out (by unfold maxLen; omega) (by omega) ?_
   intro v' wr hown4 hgrow4 hat4
   simp only [Nat.zero_add, List.nil_append] at hown4
   have M4 := HC.out.grow 1 rfl hgrow4 hown4 hat4
   obtain ⟨a20, c20, rfl, _⟩ := M4.val 1 rfl
   have HN := Tre.hid M4
   clear M4 hown4 hgrow4 hat4
   refine ⟨⟨HN.out.cell 4 rfl 0 rfl, HN.out.cell 3 rfl 0 rfl⟩, fun hH2 => ?_⟩
   refine lPv 9 (some 26) (.agg #[.slice a20 n c20, .int .i64 ((n : Int) + (m : Int))]) (keep_of hH2) ?_
   exact outof_G hG (Z1.out b17 a20 c20 b8 wr HN) (by kernel_rfl) (by rw [hA.out]; try kernel_rfl)
 ⟩
 have Z4 : Kept (∀ (b17 : Nat) (wq : World), Hid (Mem w wq [rowR 33 5 (.slice (some ⟨b17, 0, none⟩) 0 0) 0 [], cellsR (w.heap.size + 2) 24 #[.slice none 0 0, .int .i64 0], cellsR (w.heap.size + 1) 24 #[.slice (some ⟨b2, o2, none⟩) m cb, .int .i64 (r2 : Int)], cellsR w.heap.size 24 #[.slice (some ⟨b1, o1, none⟩) n ca, .int .i64 (r1 : Int)]]) → G 4 (bt 12 503) (a0.put (some 17) (.slice (some ⟨b17, 0, none⟩) 0 0)) wq) := ⟨by
  intro b17 wq HC
  refine into_G hG ?_
  rw [hA.out]
  have hH := cS.is (w := wq) (⟨HC.out.cell 3 rfl 0 rfl, HC.out.cell 2 rfl 0 rfl⟩)
  refine lTwo 3 10 (by kernel_rfl) ?_ ?_
  ·
   refine LStep.app (some 20) (.tmp 17) (.tmp 19) 22 (by kernel_rfl) 33 ni _ 5 80 Tryz.underlying22 J1.out J2.out J3.out J4.out rfl (by omega) (.slice (some ⟨b17, 0, none⟩) 0 0) 0 [] (by kernel_rfl) (HC.out.row 0 rfl) (some ⟨b1, o1, none⟩) n ca (dg.flatMap NodeV.cells) (by kernel_rfl) (HROW.out _ HC.out.below) HONE.out (by unfold maxLen; omega) (by omega) ?_
   intro v' wr hown4 hgrow4 hat4
   simp only [Nat.zero_add, List.nil_append] at hown4
   have M4 := HC.out.grow 0 rfl hgrow4 hown4 hat4
   obtain ⟨a20, c20, rfl, _⟩ := M4.val 0 rfl
   have HN := Tre.hid M4
   clear M4 hown4 hgrow4 hat4
   refine ⟨⟨HN.out.cell 3 rfl 0 rfl, HN.out.cell 2 rfl 0 rfl⟩, fun hH2 => ?_⟩
   refine lPv 9 (some 26) (.agg #[.slice a20 n c20, .int .i64 ((n : Int) + (m : Int))]) (keep_of hH2) ?_
   exact outof_G hG (Z2.out b17 a20 c20 wr HN) (by kernel_rfl) (by rw [hA.out]; try kernel_rfl)
  ·
   have HN := Tre.hid (HC.out.allocR #[.slice none 0 0, .int .i64 0] 24)
   have hH2 := cS.is (w := (wq.alloc (.cells #[.slice none 0 0, .int .i64 0] 24))) (⟨HN.out.cell 4 rfl 0 rfl, HN.out.cell 3 rfl 0 rfl⟩)
   refine LStep.made (some 8) (.pointer (some ⟨wq.heap.size, 0, none⟩)) _ (by kernel_rfl) (by kernel_rfl) hH2 ?_
   exact outof_G hG (Z3.out b17 wq.heap.size _ HN) (by kernel_rfl) (by rw [hA.out]; try kernel_rfl)
 ⟩
 have Z5 : Kept (∀ (b8 : Nat) (wq : World), Hid (Mem w wq [cellsR b8 24 #[.slice none 0 0, .int .i64 0], cellsR (w.heap.size + 2) 24 #[.slice none 0 0, .int .i64 0], cellsR (w.heap.size + 1) 24 #[.slice (some ⟨b2, o2, none⟩) m cb, .int .i64 (r2 : Int)], cellsR w.heap.size 24 #[.slice (some ⟨b1, o1, none⟩) n ca, .int .i64 (r1 : Int)]]) → G 4 (bt 12 1526) (a0.put (some 8) (.pointer (some ⟨b8, 0, none⟩))) wq) := ⟨by
  intro b8 wq HC
  refine into_G hG ?_
  rw [hA.out]
  have hH := cS.is (w := wq) (⟨HC.out.cell 3 rfl 0 rfl, HC.out.cell 2 rfl 0 rfl⟩)
  refine lOne 0 (by kernel_rfl) ?_
  ·
   have HN := Tre.hid (HC.out.allocRow #[] 33 5 0 (by unfold maxLen; omega) rfl)
   have HC := Tre.hid ((HN.out.front 0 rfl).front 1 rfl)
   clear HN
   have hH2 := cS.is (w := (wq.alloc (.cells #[] 33))) (⟨HC.out.cell 4 rfl 0 rfl, HC.out.cell 3 rfl 0 rfl⟩)
   refine LStep.made (some 17) (.slice (some ⟨wq.heap.size, 0, none⟩) 0 0) _ (by kernel_rfl) (by kernel_rfl) hH2 ?_
   exact outof_G hG (Z3.out wq.heap.size b8 _ HC) (by kernel_rfl) (by rw [hA.out]; try kernel_rfl)
 ⟩
 have Z6 : Kept (∀ (wq : World), Hid (Mem w wq [cellsR (w.heap.size + 2) 24 #[.slice none 0 0, .int .i64 0], cellsR (w.heap.size + 1) 24 #[.slice (some ⟨b2, o2, none⟩) m cb, .int .i64 (r2 : Int)], cellsR w.heap.size 24 #[.slice (some ⟨b1, o1, none⟩) n ca, .int .i64 (r1 : Int)]]) → G 5 (bt 12 502) (a0) wq) := ⟨by
  intro  wq HC
  refine into_G hG ?_
  rw [hA.out]
  have hH := cS.is (w := wq) (⟨HC.out.cell 2 rfl 0 rfl, HC.out.cell 1 rfl 0 rfl⟩)
  refine lTwo 0 10 (by kernel_rfl) ?_ ?_
  ·
   have HN := Tre.hid (HC.out.allocRow #[] 33 5 0 (by unfold maxLen; omega) rfl)
   have hH2 := cS.is (w := (wq.alloc (.cells #[] 33))) (⟨HN.out.cell 3 rfl 0 rfl, HN.out.cell 2 rfl 0 rfl⟩)
   refine LStep.made (some 17) (.slice (some ⟨wq.heap.size, 0, none⟩) 0 0) _ (by kernel_rfl) (by kernel_rfl) hH2 ?_
   exact outof_G hG (Z4.out wq.heap.size _ HN) (by kernel_rfl) (by rw [hA.out]; try kernel_rfl)
  ·
   have HN := Tre.hid (HC.out.allocR #[.slice none 0 0, .int .i64 0] 24)
   have hH2 := cS.is (w := (wq.alloc (.cells #[.slice none 0 0, .int .i64 0] 24))) (⟨HN.out.cell 3 rfl 0 rfl, HN.out.cell 2 rfl 0 rfl⟩)
   refine LStep.made (some 8) (.pointer (some ⟨wq.heap.size, 0, none⟩)) _ (by kernel_rfl) (by kernel_rfl) hH2 ?_
   exact outof_G hG (Z5.out wq.heap.size _ HN) (by kernel_rfl) (by rw [hA.out]; try kernel_rfl)
 ⟩
 exact Z6.out  wq0 HC
end Go.Proofs.YtoieknnnadgfpaaGreatDoor.gr
