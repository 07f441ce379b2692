/- canon.Classes, canon.Least. strings.Builder among the resources of a call: WriteString. Nodes that are held, read at any later world. -/
import Derived.Test.YtaleodkbghogfaaGreatDoorB35
import Derived.Test.YtaleodkbghogfaaGreatDoorB19
import Derived.Test.YtaleodkbghogfaaGreatDoorB29
import Derived.Test.YtaleodkbghogfaaGreatDoorB09
import Derived.Lib.SliceRun
import Derived.Sort.LoopGhostIn
import Derived.Deep.LoopGhost
import Derived.Test.YtaleodkbghogfaaGreatDoorB33
set_option linter.unusedVariables false
namespace Go.Tre
open Go.RowKit
theorem list_beq {xs ys : List Int} : (xs == ys) = decide (xs = ys) := by
 rw [Bool.eq_iff_iff, beq_iff_eq, decide_eq_true_iff]
theorem cast_inj {xs ys : List Nat} (h : xs.map (fun k : Nat => (k : Int)) = ys.map (fun k : Nat => (k : Int))) : xs = ys := map_inj (fun a b e => by exact_mod_cast e) h
theorem iter_small {g : Tre.Graph} (og : g.Ok) (k : Nat) : ∀ y ∈ g.iterL k, y ≤ 8388608 := by
 intro y hy
 obtain ⟨i, hi, rfl⟩ := List.getElem_of_mem hy
 have hi' := hi
 rw [iter_len] at hi'
 have h := iter_low k i hi'
 rw [List.getD_eq_getElem?_getD, List.getElem?_eq_getElem hi] at h
 simp at h
 have := og.len
 omega
theorem cls_small {g : Tre.Graph} (og : g.Ok) : ∀ y ∈ g.classesL, y ≤ 8388608 := iter_small og _
def quotL (g : Tre.Graph) (k : Nat) : List Tre.Node := (g.ns.take k).map (clsNode g.cls)
theorem quotL_succ {g : Tre.Graph} {k : Nat} (h : k < g.ns.length) : quotL g (k + 1) = quotL g k ++ [clsNode g.cls (g.nd k)] := by
 unfold quotL; rw [List.take_add_one, List.getElem?_eq_getElem h, List.map_append, Graph.nd_eq h]; rfl
end Go.Tre
namespace Go.Proofs.YtaleodkbghogfaaGreatDoor.gr
open Go.RowKit Go.Shelf Go.Maps Go.Tre lex
set_option maxHeartbeats 1000000 in
theorem equalInts (v1 v2 : Value) (xs ys : List Nat) (_w0 w : World) (_rs : List Res) (n : Nat) (h1 : w.ownsRow 0 3 1 v1 n (xs.map rk)) (h2 : w.ownsRow 0 3 1 v2 n (ys.map rk)) (hx : xs.length = n) (hy : ys.length = n) (h0 : 0 < n) (hn : n ≤ 8388608) :
  Calls Tryz.prog 33 #[v1, v2] w fun e w' => e = .returned (.bool (decide (xs = ys))) ∧ Below w.heap.size w w' := by
 obtain ⟨a1, c1, rfl, _, r1⟩ := row_read h1
 obtain ⟨a2, c2, rfl, _, r2⟩ := row_read h2
 have z : ∀ (l : List Nat) (a : Option Addr), l.length = n → Row w 1 a n (l.map rk) → ∃ b o, a = some ⟨b, o, none⟩ ∧ ∀ j, j < (l.map (fun k : Nat => (k : Int))).length → w.cell? ⟨b, o + j, none⟩ = some (.int .i64 ((l.map (fun k : Nat => (k : Int))).getD j 0)) := fun l a hl r => by
  obtain ⟨b, o, rfl, _⟩ := r.at_ 0 (rk (l[0]'(by omega))) (by rw [List.getElem?_map, List.getElem?_eq_getElem (by omega)]; rfl)
  refine ⟨b, o, rfl, fun j hj => ?_⟩
  rw [List.length_map] at hj
  obtain ⟨b', o', e, hc⟩ := r.at_ j (rk l[j]) (by rw [List.getElem?_map, List.getElem?_eq_getElem hj]; rfl)
  cases e
  rw [hc, List.getD_eq_getElem?_getD, List.getElem?_map, List.getElem?_eq_getElem hj]
  rfl
 obtain ⟨b1, o1, rfl, q1⟩ := z xs a1 hx r1
 obtain ⟨b2, o2, rfl, q2⟩ := z ys a2 hy r2
 refine (Tryz.slices_Equal_int b1 o1 n c1 b2 o2 n c2 (xs.map fun k : Nat => (k : Int)) (ys.map fun k : Nat => (k : Int)) w (by simp [hx]) (by simp [hy]) (by omega) (by omega) q1 q2).mono ?_
 rintro e w' ⟨rfl, q, rfl⟩
 refine ⟨?_, Go.below_drewN (Below.refl _ _) q⟩
 rw [List.take_of_length_le (by simp [hx]), List.take_of_length_le (by simp [hy]), list_beq]
 have : (xs.map (fun k : Nat => (k : Int)) = ys.map (fun k : Nat => (k : Int))) = (xs = ys) := propext ⟨cast_inj, fun e => by rw [e]⟩
 simp only [this]

set_option maxHeartbeats 1000000 in
theorem classes_no (a : Option Addr) (ca : Nat) (g : Tre.Graph) (w : World) (hg : NodesAt w a g.ns) (wg : g.weight ≤ 2097152) (hm : MaxAt w) (c0 : ¬ g.checkC = 0) :
  Calls Tryz.prog 16 #[.agg #[.slice a g.ns.length ca, .int .i64 g.root]] w fun e w' => e = .returned (.slice none 0 0) ∧ Below w.heap.size w w' := by
 have M := (Mem.nil w).allocR #[.slice a g.ns.length ca, .int .i64 g.root] 24
 have CK := Tre.hid (check_any a ca g _ (hg.below M.below) (by omega) (hm.below M.below))
 have HM0 := Tre.hid M
 have hc : (g.checkC != 0) = true := by simp [c0]
 clear hg hm M c0
 go_enter Tryz.func16, Tryz.ntmps16
 go_wp2_with fail
 refine CK.out.mono ?_
 rintro e w1 ⟨rfl, b1⟩
 have HB := Tre.hid (HM0.out.quiet b1).below
 clear b1
 go_wp2_with fail
 go_ret
 exact ⟨rfl, HB.out⟩

set_option maxRecDepth 100000 in
set_option maxHeartbeats 4000000 in
theorem classes_ok (a : Option Addr) (ca : Nat) (g : Tre.Graph) (w : World) (hg : NodesAt w a g.ns) (wg : g.weight ≤ 2097152) (hm : MaxAt w) (ht : TabAt w) (c0 : g.checkC = 0) :
  Calls Tryz.prog 16 #[.agg #[.slice a g.ns.length ca, .int .i64 g.root]] w fun e w' =>
   ∃ v, e = .returned v ∧ Mem w w' [rowR 3 1 v g.ns.length (g.classesL.map rk)] := by
 have M := (Mem.nil w).allocR #[.slice a g.ns.length ca, .int .i64 g.root] 24
 have CK := check_any a ca g _ (hg.below M.below) (by omega) (hm.below M.below)
 rw [c0] at CK
 have HCK := Tre.hid CK
 have HG := Tre.hid hg
 have HT := Tre.hid ht
 have C0 := Tre.hid c0
 have OG := Tre.hid (Graph.ok_of c0)
 have hgl := OG.out.len
 have hg0 : 0 < g.ns.length := by have := OG.out.root1; omega
 have HM0 := Tre.hid M
 clear hg hm ht M c0 CK
 go_enter Tryz.func16, Tryz.ntmps16
 go_wp2_with fail
 refine HCK.out.mono ?_
 rintro e w1 ⟨rfl, b1⟩
 have M1 := HM0.out.quiet b1
 obtain ⟨g0, g1⟩ := M1.two 0 rfl
 obtain ⟨wm, hmk, hmem⟩ := made_ints w1 g.ns.length (by omega)
 have M2 := hmem _ _ M1
 generalize hb : w1.heap.size = bm at *
 have HM2 := Tre.hid M2
 clear b1 M1 hmem M2 hb
 go_wp2_with fail
 go_loopg [3] (g.ns.length * g.ns.length) (fun gk v3 wr => ∃ k : Nat, Hid (gk + (g.iterL k).sum = g.ns.length * g.ns.length) ∧ Hid (Mem w wr [rowR 3 1 v3 g.ns.length ((g.iterL k).map rk), cellsR w.heap.size 24 #[.slice a g.ns.length ca, .int .i64 g.root]]))
 case atStart => exact ⟨0, by show _ = _; simp [Graph.iterL], HM2.out⟩
 case round =>
  obtain ⟨k, hgk, hM⟩ := hrel
  obtain ⟨a3, c3, rfl, _, hr3⟩ := row_read (hM.out.row 0 rfl)
  have HR3 : Hid (IntsAt wr a3 ((g.iterL k).map fun k : Nat => (k : Int))) := by
   show Row _ _ _ _ _
   rw [List.length_map, iter_len, List.map_map]; exact hr3
  obtain ⟨g0, g1⟩ := hM.out.two 1 rfl
  have CR := refine_any a ca g a3 c3 (g.iterL k) wr (HG.out.below hM.out.below) C0.out wg HR3.out (iter_len k) (iter_small OG.out k) (HT.out.below hM.out.below)
  rw [iter_len] at CR
  have HCR := Tre.hid CR
  clear hr3 CR
  go_wp2_with fail
  refine HCR.out.mono ?_
  rintro e w3 ⟨v4, rfl, m3⟩
  have HM3 := Tre.hid (hM.out.call m3)
  clear m3
  by_cases hst : g.refineL (g.iterL k) = g.iterL k
  ·have HCL := Tre.hid (iter_classes hst)
   have HST := Tre.hid hst
   clear hst
   obtain ⟨a4, c4, rfl, _⟩ := HM3.out.val 0 rfl
   go_wp2_with fail
   refine (equalInts _ _ (g.refineL (g.iterL k)) (g.iterL k) w w3 [] g.ns.length (HM3.out.row 0 rfl) (HM3.out.row 1 rfl) (refineL_len _) (iter_len k) hg0 (by omega)).mono ?_
   rintro e w4 ⟨rfl, b4⟩
   rw [decide_eq_true HST.out]
   have HM4 := Tre.hid (HM3.out.quiet b4)
   clear b4
   go_wp2_with fail
   go_ret
   refine ⟨_, rfl, ?_⟩
   have h := (HM4.out.del 1).del 1
   rw [HST.out, HCL.out] at h
   exact h
  ·have HST := Tre.hid hst
   have HMORE := Tre.hid (iter_more hst)
   have HBD := Tre.hid (iter_bound (g := g) (k + 1))
   clear hst
   obtain ⟨a4, c4, rfl, _⟩ := HM3.out.val 0 rfl
   go_wp2_with fail
   refine (equalInts _ _ (g.refineL (g.iterL k)) (g.iterL k) w w3 [] g.ns.length (HM3.out.row 0 rfl) (HM3.out.row 1 rfl) (refineL_len _) (iter_len k) hg0 (by omega)).mono ?_
   rintro e w4 ⟨rfl, b4⟩
   rw [decide_eq_false HST.out]
   have HM4 := Tre.hid (HM3.out.quiet b4)
   clear b4
   go_wp2_with fail
   go_roundg (g.ns.length * g.ns.length - (g.iterL (k + 1)).sum)
   case measure => have h1 := hgk.out; have h2 := HMORE.out; have h3 := HBD.out; omega
   case rel => exact ⟨k + 1, by have h3 := HBD.out; show _ = _; omega, HM4.out.del 1⟩
def argsR (ds : List NodeV) : Res := manyR (ds.map fun d => rowR 3 1 d.va d.n.args.length (d.n.args.map (Value.int .i64)))
theorem argsR_snoc (ds : List NodeV) (d : NodeV) : argsR (ds ++ [d]) = manyR (ds.map (fun d => rowR 3 1 d.va d.n.args.length (d.n.args.map (Value.int .i64))) ++ [rowR 3 1 d.va d.n.args.length (d.n.args.map (Value.int .i64))]) := by unfold argsR; rw [List.map_append]; rfl
def LabsOf (w : World) (ds : List NodeV) : Prop := ∀ d ∈ ds, ∃ al cl, d.vl = .slice al d.n.labels.length cl ∧ StrsAt w al d.n.labels ∧ d.n.labels.length ≤ cl
theorem LabsOf.snoc {w : World} {ds : List NodeV} {d : NodeV} (h : LabsOf w ds) (hd : ∃ al cl, d.vl = .slice al d.n.labels.length cl ∧ StrsAt w al d.n.labels ∧ d.n.labels.length ≤ cl) : LabsOf w (ds ++ [d]) := by
 intro x hx
 rcases List.mem_append.1 hx with hx | hx
 ·exact h x hx
 ·simp at hx; subst hx; exact hd
theorem labs_vals {w w' : World} {ds : List NodeV} (h : LabsOf w ds) (hb : Below w.heap.size w w') (ha : (argsR ds).P w') : ∀ d ∈ ds, NodeVal w' d := by
 intro d hd
 obtain ⟨al, cl, e1, h1, h2⟩ := h d hd
 obtain ⟨aa, ca, ea, la, ra⟩ := row_read (ha (rowR 3 1 d.va d.n.args.length (d.n.args.map (Value.int .i64))) (List.mem_map.2 ⟨d, hd, rfl⟩))
 exact ⟨aa, ca, al, cl, ea, e1, ra, h1.below hb, la, h2⟩
theorem _root_.Go.Tre.Mem.push1 {w0 w : World} {rs l : List Res} {a n : Res} (h : Mem w0 w (a :: n :: manyR l :: rs)) : Mem w0 w (n :: manyR (l ++ [a]) :: rs) := by
 have h2 : Mem w0 w (manyR l :: a :: n :: rs) := h.front 2 rfl
 have h3 : Mem w0 w (a :: manyR l :: n :: rs) := h2.front 1 rfl
 exact h3.into.front 1 rfl
theorem quot_ns (g : Tre.Graph) : g.quotG.ns = quotL g g.ns.length := by unfold Graph.quotG quotL; rw [List.take_length]
theorem quot_weight (g : Tre.Graph) : g.quotG.weight = g.weight := by
 unfold Graph.weight Graph.quotG
 simp only [List.map_map]
 congr 1
 apply List.map_congr_left
 intro n _
 simp [Node.weight, clsNode]

set_option maxRecDepth 100000 in
set_option maxHeartbeats 8000000 in
theorem least_any (a : Option Addr) (ca : Nat) (g : Tre.Graph) (w : World) (hg : NodesAt w a g.ns) (wg : g.weight ≤ 2097152) (hm : MaxAt w) (ht : TabAt w) (c0 : g.checkC = 0) :
  Calls Tryz.prog 13 #[.agg #[.slice a g.ns.length ca, .int .i64 g.root]] w fun e w' =>
   ∃ v ds, e = .returned (.agg #[v, .int .i64 0]) ∧ ds.map NodeV.n = g.leastG.ns ∧ Mem w w' [nodesR v ds, kidsR ds] := by
 have M := ((Mem.nil w).allocR #[.slice a g.ns.length ca, .int .i64 g.root] 24).allocR #[.slice none 0 0, .int .i64 0] 24
 simp only [heapSize_alloc] at M
 have HCLS := Tre.hid (classes_ok a ca g _ (hg.below M.below) wg (hm.below M.below) (ht.below M.below) c0)
 have HG := Tre.hid hg
 have HX := Tre.hid hm
 have C0 := Tre.hid c0
 have OG := Tre.hid (Graph.ok_of c0)
 have hgl := OG.out.len
 have HM0 := Tre.hid M
 obtain ⟨ji, K1, K2, K3, K4⟩ := info_parts infoI
 have L1 := Tre.hid K1
 have L2 := Tre.hid K2
 have L3 := Tre.hid K3
 have L4 := Tre.hid K4
 obtain ⟨ni, I1, I2, I3, I4⟩ := info_parts infoN
 have J1 := Tre.hid I1
 have J2 := Tre.hid I2
 have J3 := Tre.hid I3
 have J4 := Tre.hid I4
 have HQN := Tre.hid (quot_ns g)
 have HQW : Hid (g.quotG.weight ≤ 2097152) := by show _ ≤ _; rw [quot_weight]; exact wg
 have HQR : Hid (g.quotG.root = ((g.cls g.root.toNat : Nat) : Int)) := rfl
 have HLG : Hid (g.leastG.ns = g.quotG.trim.ns) := rfl
 have CV : Hid (∀ x, x < g.ns.length → (g.classesL.map rk)[x]? = some (.int .i64 ((g.cls x : Nat) : Int))) := fun x hx => by
  have hx' : x < g.classesL.length := by rw [classes_len]; exact hx
  rw [List.getElem?_map, List.getElem?_eq_getElem hx']
  simp only [Tre.qd, rk]
  unfold Graph.cls
  rw [List.getD_eq_getElem?_getD, List.getElem?_eq_getElem hx']; rfl
 have HR0 := OG.out.root0
 have HR1 := OG.out.root1
 obtain ⟨rn, hrn⟩ : ∃ rn : Nat, g.root = (rn : Int) := ⟨g.root.toNat, by omega⟩
 have hrt : g.root.toNat = rn := by omega
 have hrl : rn < g.ns.length := by omega
 have HRN := Tre.hid hrn
 have HRT := Tre.hid hrt
 clear hg hm ht M c0 K1 K2 K3 K4 I1 I2 I3 I4 HR0 HR1 hrn hrt
 go_enter Tryz.func13, Tryz.ntmps13
 go_wp2_with fail
 refine HCLS.out.mono ?_
 rintro e w1 ⟨vc, rfl, m1⟩
 have M1 := HM0.out.call m1
 obtain ⟨ac, cc, rfl, _⟩ := M1.val 0 rfl
 obtain ⟨gc, rfl, _, _, hcr⟩ := M1.getRow 0 rfl rn (CV.out rn hrl)
 obtain ⟨g0, g1⟩ := M1.two 2 rfl
 rw [HRN.out] at g1
 have i1 : (0 : Int) ≤ (rn : Int) := by omega
 have i2 : (rn : Int) < (g.ns.length : Int) := by omega
 rw [← HRT.out] at hcr
 have M2 := M1.allocR #[.slice none 0 0, .int .i64 ((g.cls g.root.toNat : Nat) : Int)] 24
 obtain ⟨q0, q1⟩ := M2.two 3 rfl
 have HM2 := Tre.hid M2
 have hcr' : w1.cell? ⟨gc, rn, none⟩ = some (.int .i64 ((g.cls g.root.toNat : Nat) : Int)) := by rw [← HRT.out]; exact hcr
 generalize hcv : ((g.cls g.root.toNat : Nat) : Int) = rv at *
 have HRV := Tre.hid hcv
 have heq := fun (w : World) => Lib.run_eql_slice_nil (P := Tryz.prog) w 30 3 (some ⟨gc, 0, none⟩) g.ns.length cc 0 0 Tryz.underlying30
 clear m1 M1 M2 hcv hcr
 go_wp2_with fail
 generalize hb4 : w1.heap.size = b4 at *
 have HM3 : Hid (Mem w (w1.alloc (.cells #[.slice none 0 0, .int .i64 rv] 24)) [nodesR (.slice none 0 0) [], argsR [], cellsR b4 24 #[.slice none 0 0, .int .i64 rv], rowR 3 1 (.slice (some ⟨gc, 0, none⟩) g.ns.length cc) g.ns.length (g.classesL.map rk), cellsR (w.heap.size + 1) 24 #[.slice none 0 0, .int .i64 0], cellsR w.heap.size 24 #[.slice a g.ns.length ca, .int .i64 g.root]]) := HM2.out.addMany.addNil 33 5
 generalize hwq : w1.alloc (.cells #[.slice none 0 0, .int .i64 rv] 24) = wq at *
 clear hwq hb4 HM2 g0 g1 hcr' heq
 go_loopw [24] (fun v24 wr => ∃ (k : Nat) (vN : Value) (ds : List NodeV), k ≤ g.ns.length ∧ v24 = .int .i64 k ∧ Hid (ds.map NodeV.n = quotL g k) ∧ Hid (LabsOf w ds) ∧ Hid (Mem w wr [nodesR vN ds, argsR ds, cellsR b4 24 #[vN, .int .i64 rv], rowR 3 1 (.slice (some ⟨gc, 0, none⟩) g.ns.length cc) g.ns.length (g.classesL.map rk), cellsR (w.heap.size + 1) 24 #[.slice none 0 0, .int .i64 0], cellsR w.heap.size 24 #[.slice a g.ns.length ca, .int .i64 g.root]]))
  (fun v24 _ => g.ns.length - (intOf v24).toNat)
 case atStart => exact ⟨0, .slice none 0 0, [], Nat.zero_le _, rfl, rfl, fun d hd => by simp at hd, HM3.out⟩
 case round =>
  obtain ⟨k, vN, ds, hk, rfl, hds, hLB, hQ⟩ := hrel
  obtain ⟨aN, cN, rfl, _⟩ := hQ.out.val 0 rfl
  obtain ⟨p0, p1⟩ := hQ.out.two 2 rfl
  have hdl : ds.length = k := by have := congrArg List.length hds.out; rw [List.length_map] at this; unfold quotL at this; rw [List.length_map, List.length_take] at this; omega
  by_cases hlt : k < g.ns.length
  ·obtain ⟨b1, o1, rfl, nx⟩ := HG.out.at_ k (g.nd k) (by rw [Graph.nd_eq hlt]; exact List.getElem?_eq_getElem hlt)
   have hXw : (g.nd k).weight ≤ g.weight := by rw [Graph.nd_eq hlt]; exact node_weight (List.getElem_mem hlt)
   have hxa := args_len (g.nd k)
   have hxb := labels_len (g.nd k)
   have HAX := Tre.hid (OG.out.kids_eq hlt)
   have HKL := Tre.hid (OG.out.kids_lt hlt)
   have HQS := Tre.hid (quotL_succ hlt)
   generalize hX : g.nd k = X at *
   obtain ⟨ax, cx, lx, dx, x0, x1, x2, x3, x4, xA, xL, hca, hcl⟩ := nx
   have XA := Tre.hid xA
   have XL := Tre.hid xL
   have x0 := cell_below hQ.out.below x0
   have x1 := cell_below hQ.out.below x1
   have x2 := cell_below hQ.out.below x2
   have x3 := cell_below hQ.out.below x3
   have x4 := cell_below hQ.out.below x4
   obtain ⟨bx, hbx⟩ : ∃ bx : Nat, wr.heap.size = bx := ⟨_, rfl⟩
   have MA := hQ.out.allocR #[.int .i64 X.kind, .string X.name, .slice ax X.args.length cx, .slice lx X.labels.length dx, .bool X.isOpen] 33
   rw [hbx] at MA
   have z2 := MA.cell 0 rfl 2 rfl
   obtain ⟨ww, hww⟩ : ∃ ww : World, wr.alloc (.cells #[.int .i64 X.kind, .string X.name, .slice ax X.args.length cx, .slice lx X.labels.length dx, .bool X.isOpen] 33) = ww := ⟨_, rfl⟩
   rw [hww] at MA z2
   obtain ⟨wm, hmk, hmo, hmg⟩ := run_make_own (P := Tryz.prog) ww 0 30 3 ji _ 1 Tryz.underlying30 L1.out L2.out L3.out .i64 .i64 X.args.length (by rw [L4.out]; omega) (by unfold maxLen; omega) (Nat.zero_le _)
   have M5 := MA.add hmg (rowR 3 1 (.slice (some ⟨ww.heap.size, 0, none⟩) 0 X.args.length) 0 []) hmo (fun b hb => by have : some ww.heap.size = some b := hb; cases this; exact Nat.le_refl _)
   have c2 := M5.cell 1 rfl 2 rfl
   have HM5 := Tre.hid M5
   have j1 : (0 : Int) ≤ (k : Int) := by omega
   have j2 : (k : Int) < (g.ns.length : Int) := by omega
   have HDL := Tre.hid hdl
   have hdl' : ds.length ≤ 1048576 := by omega
   clear xA xL MA hX M5 hmo hmg hdl
   go_wp2_with fail
   clear hww hmk hbx x0 x1 x2 x3 x4 z2
   have HM6 : Hid (Mem w wm [rowR 3 1 (.slice (some ⟨ww.heap.size, 0, none⟩) 0 X.args.length) 0 (([] : List Int).map fun z => Value.int .i64 ((g.cls z.toNat : Nat) : Int)), cellsR bx 33 #[.int .i64 X.kind, .string X.name, .slice ax X.args.length cx, .slice lx X.labels.length dx, .bool X.isOpen], nodesR (.slice aN ds.length cN) ds, argsR ds, cellsR b4 24 #[(.slice aN ds.length cN), .int .i64 rv], rowR 3 1 (.slice (some ⟨gc, 0, none⟩) g.ns.length cc) g.ns.length (g.classesL.map rk), cellsR (w.heap.size + 1) 24 #[.slice none 0 0, .int .i64 0], cellsR w.heap.size 24 #[.slice (some ⟨b1, o1, none⟩) g.ns.length ca, .int .i64 g.root]]) := HM5.out
   clear HM5
   go_loopw [7, 35] (fun v7 v35 wr => ∃ (j : Nat) (vR : Value), j ≤ X.args.length ∧ v35 = .int .i64 j ∧ v7 = vR ∧ Hid (Mem w wr [rowR 3 1 vR j ((X.args.take j).map fun z => Value.int .i64 ((g.cls z.toNat : Nat) : Int)), cellsR bx 33 #[.int .i64 X.kind, .string X.name, .slice ax X.args.length cx, .slice lx X.labels.length dx, .bool X.isOpen], nodesR (.slice aN ds.length cN) ds, argsR ds, cellsR b4 24 #[(.slice aN ds.length cN), .int .i64 rv], rowR 3 1 (.slice (some ⟨gc, 0, none⟩) g.ns.length cc) g.ns.length (g.classesL.map rk), cellsR (w.heap.size + 1) 24 #[.slice none 0 0, .int .i64 0], cellsR w.heap.size 24 #[.slice (some ⟨b1, o1, none⟩) g.ns.length ca, .int .i64 g.root]]))
    (fun _ v35 _ => X.args.length - (intOf v35).toNat)
   case atStart => exact ⟨0, _, Nat.zero_le _, rfl, rfl, HM6.out⟩
   case round =>
    obtain ⟨j, vR, hj, rfl, rfl, hI⟩ := hrel
    obtain ⟨aR, cR, rfl, _⟩ := hI.out.val 0 rfl
    by_cases hjl : j < X.args.length
    ·obtain ⟨bz, oz, rfl, hzc⟩ := XA.out.at_ j (.int .i64 X.args[j]) (by rw [List.getElem?_map, List.getElem?_eq_getElem hjl]; rfl)
     have hzc := cell_below hI.out.below hzc
     have hyk : ∃ y : Nat, X.args[j] = (y : Int) ∧ y < g.ns.length := by
      have h9 : ∀ z ∈ X.args, ∃ y : Nat, z = (y : Int) ∧ y < g.ns.length := by
       rw [HAX.out]
       intro z hz
       obtain ⟨q, hq, rfl⟩ := List.mem_map.1 hz
       exact ⟨q, rfl, HKL.out q hq⟩
      exact h9 _ (List.getElem_mem hjl)
     obtain ⟨y, hy, hyl⟩ := hyk
     have HTJ : Hid ((X.args.take (j + 1)).map (fun z => Value.int .i64 ((g.cls z.toNat : Nat) : Int)) = (X.args.take j).map (fun z => Value.int .i64 ((g.cls z.toNat : Nat) : Int)) ++ [.int .i64 ((g.cls y : Nat) : Int)]) := by
      show _ = _; rw [List.take_add_one, List.getElem?_eq_getElem hjl, List.map_append, hy]; rfl
     rw [hy] at hzc
     have hcy := hI.out.cellAt 5 rfl y (CV.out y hyl)
     have j1 : (0 : Int) ≤ (j : Int) := by omega
     have j2 : (j : Int) < (X.args.length : Int) := by omega
     have y1 : (0 : Int) ≤ (y : Int) := by omega
     have y2 : (y : Int) < (g.ns.length : Int) := by omega
     have MB := Tre.hid (hI.out.allocRow #[.int .i64 ((g.cls y : Nat) : Int)] 3 1 1 (by unfold maxLen; omega) rfl)
     generalize ((g.cls y : Nat) : Int) = u at *
     have hba := hI.out.cell 1 rfl 2 rfl
     clear hy
     go_wp2_with (at_builtin; refine wpList_append_row _ rfl _ _ 30 rfl 3 ji _ 1 8 Tryz.underlying30 L1.out L2.out L3.out L4.out rfl (by omega) (.slice aR j cR) j _ rfl (MB.out.row 1 rfl) (some ⟨wr.heap.size, 0, none⟩) 1 1 [.int .i64 u] rfl ⟨rfl, fun j u hj => ⟨_, 0, rfl, by rw [Nat.zero_add]; exact MB.out.cellAt 0 rfl j hj⟩⟩ (by simp [Value.oneCell']) (by unfold maxLen; omega) (by omega) ?_; intro v' w8 hown4 hgrow4 hat4; have M4 := MB.out.grow 1 rfl hgrow4 hown4 hat4; obtain ⟨a4, c4, rfl, _⟩ := M4.val 1 rfl; have HM4 := Tre.hid M4; clear M4 hown4 hgrow4 hat4)
     go_roundw
     case rel =>
      refine ⟨j + 1, .slice a4 (j + 1) c4, by omega, by go_num, rfl, ?_⟩
      show Mem _ _ _
      rw [HTJ.out]
      exact HM4.out.del 0
     case measure => simp [intOf]; omega
    ·have e : j = X.args.length := by omega
     subst e
     have hI' := hI.out
     rw [List.take_length] at hI'
     have f2 := hI'.free 1 rfl 2
     obtain ⟨y0, y1, y2, y3, y4⟩ := five hI' 1 rfl
     have M8 := hI'.setCell 1 rfl 2 (.slice aR X.args.length cR)
     obtain ⟨ww2, hww⟩ : ∃ ww : World, wr.setCell ⟨bx, 2, none⟩ (.slice aR X.args.length cR) = ww := ⟨_, rfl⟩
     rw [hww] at M8
     obtain ⟨t0, t1, t2, t3, t4⟩ := five M8 1 rfl
     have MB := Tre.hid (M8.allocRow #[.int .i64 X.kind, .string X.name, .slice aR X.args.length cR, .slice lx X.labels.length dx, .bool X.isOpen] 33 5 1 (by unfold maxLen; omega) rfl)
     obtain ⟨p0, p1⟩ := M8.two 4 rfl
     clear hI hI' M8
     go_wp2_with (at_builtin; refine wpList_append_row _ rfl _ _ 22 rfl 33 ni _ 5 80 Tryz.underlying22 J1.out J2.out J3.out J4.out rfl (by omega) (.slice aN ds.length cN) ds.length (ds.flatMap NodeV.cells) rfl (MB.out.row 3 rfl) (some ⟨ww2.heap.size, 0, none⟩) 1 1 [.int .i64 X.kind, .string X.name, .slice aR X.args.length cR, .slice lx X.labels.length dx, .bool X.isOpen] rfl ⟨rfl, fun j u hj => ⟨_, 0, rfl, by rw [Nat.zero_add]; exact MB.out.cellAt 0 rfl j hj⟩⟩ (by simp [Value.oneCell']) (by unfold maxLen; omega) (by omega) ?_; intro v' w9 hown4 hgrow4 hat4; have M4 := MB.out.grow 3 rfl hgrow4 hown4 hat4; obtain ⟨a4, c4, rfl, _⟩ := M4.val 3 rfl; have q6 : w9.cell? ⟨b4, 0, none⟩ = some (.slice aN ds.length cN) := M4.cell 5 rfl 0 rfl; have f6 := M4.free 5 rfl 0; have HM4 := Tre.hid (M4.setCell 5 rfl 0 (.slice a4 (ds.length + 1) c4)); clear M4 hown4 hgrow4 hat4)
     clear hww
     go_roundw
     case rel =>
      have hk2 : (clsNode g.cls X).args.length = X.args.length := by simp [clsNode]
      have hk3 : (clsNode g.cls X).args.map (Value.int .i64) = X.args.map fun z => Value.int .i64 ((g.cls z.toNat : Nat) : Int) := by simp only [clsNode, List.map_map]; rfl
      refine ⟨k + 1, .slice a4 (ds.length + 1) c4, ds ++ [⟨clsNode g.cls X, .slice aR X.args.length cR, .slice lx X.labels.length dx⟩], by omega, by go_num, ?_, ?_, ?_⟩
      ·show _ = _
       rw [List.map_append, hds.out, HQS.out]; rfl
      ·exact hLB.out.snoc ⟨lx, dx, rfl, XL.out, hcl⟩
      ·show Mem _ _ _
       rw [nodesR_snoc, argsR_snoc, hk2, hk3]
       exact ((HM4.out.del 0).del 1).push1
     case measure => simp [intOf]; omega
  ·have e : k = g.ns.length := by omega
   have hds' := hds.out
   rw [e, ← HQN.out] at hds'
   have NV := nodesAt_of (hQ.out.at_ 0 rfl) (labs_vals hLB.out hQ.out.below (hQ.out.at_ 1 rfl))
   rw [hds'] at NV
   have hql : g.quotG.ns.length = ds.length := by rw [← hds', List.length_map]
   have CT := trim_any aN cN g.quotG wr NV HQW.out (HX.out.below hQ.out.below)
   rw [hql, HQR.out, ← HLG.out] at CT
   have HCT := Tre.hid CT
   have HQ2 := hQ
   clear hds hds' NV hql CT hdl e
   go_wp2_with fail
   refine HCT.out.mono ?_
   rintro e w5 ⟨v5, d5, rfl, hd5, m5⟩
   have M5 := HQ2.out.call m5
   obtain ⟨a5, c5, rfl, _⟩ := M5.val 0 rfl
   have s0 := M5.cell 6 rfl 0 rfl
   have s1 := M5.cell 6 rfl 1 rfl
   have s0f := M5.free 6 rfl 0
   have s1f := M5.free 6 rfl 1
   have M6 := (M5.setCell 6 rfl 0 (.slice a5 d5.length c5)).setCell 6 rfl 1 (.int .i64 0)
   have HM6 := Tre.hid M6
   have HD5 := Tre.hid hd5
   clear m5 M5 M6 hd5
   go_wp2_with fail
   have z0 : ((w5.setCell ⟨w.heap.size + 1, 0, none⟩ (.slice a5 d5.length c5)).setCell ⟨w.heap.size + 1, 1, none⟩ (.int .i64 0)).cell? ⟨w.heap.size + 1, 0, none⟩ = some (.slice a5 d5.length c5) := HM6.out.cell 6 rfl 0 rfl
   have z1 : ((w5.setCell ⟨w.heap.size + 1, 0, none⟩ (.slice a5 d5.length c5)).setCell ⟨w.heap.size + 1, 1, none⟩ (.int .i64 0)).cell? ⟨w.heap.size + 1, 1, none⟩ = some (.int .i64 0) := HM6.out.cell 6 rfl 1 rfl
   refine bodyPost_ret (v := .agg #[.slice a5 d5.length c5, .int .i64 0]) (by simp [results, Tryz.results13, go_sem, z0, z1]) rfl ⟨.slice a5 d5.length c5, d5, rfl, HD5.out, HM6.out.sub (by simp)⟩
end Go.Proofs.YtaleodkbghogfaaGreatDoor.gr
namespace Go.Tre
open Go.Lib
theorem wpList_append_string_at {P : Program} {w : World} {ops : Array Oper} {rest : List Oper} {o : Oper} {a : Act} {Q : Exit → Act → World → Prop} (hgd : o.guard = none) (sl x : Operand) (t u : TypeId)
  (ho : o.op = .call { callee := .builtin .append, args := #[sl, x], argTypes := #[t, u] })
  (e : TypeId) (i : TypeInfo) (ht : P.underlying t = some (.slice e)) (hu : P.underlying u = some .string) (hi : P.info? e = some i) (hz : i.zero = some (.int .u8 0))
  (hsize : i.size = 1) (hby : i.bytes = 1)
  (v : Value) (n : Nat) (xs : List Value) (hs : a.eval sl = v) (hown : w.ownsRow 0 e 1 v n xs) (s : ByteArray) (hx : a.eval x = .string s)
  (h63 : n + s.size ≤ maxLen) (hbytes : n + s.size ≤ 140737488355328)
  (h : ∀ v' w', w'.ownsRow 0 e 1 v' (n + s.size) (xs ++ strCells s) → w.grownBy w' v.ownBlock → (v'.ownBlock = v.ownBlock ∨ v'.ownBlock = some w.heap.size) → wpList P ops Q rest (a.put o.dst v') w') : wpList P ops Q (o :: rest) a w := by
 refine wpList_plain hgd fun K hK => ?_
 obtain ⟨v', w', hr, h2, h3, h4⟩ := run_append_own_string (P := P) w 0 t u o.type e i ht hu hi hz hsize hby v n xs hown s h63 hbytes (Nat.zero_le _)
 have hat : v'.ownBlock = v.ownBlock ∨ v'.ownBlock = some w.heap.size := by
  have hxl : xs.length = n := by simpa using hown.1
  rcases hown.2 with ⟨rfl, rfl⟩ | ⟨g, cap, cur, rfl, hbg, hg, hnc, hcm, hcs, htake⟩
  ·by_cases hm : s.size = 0
   ·exact .inl (by rw [h4.2 ⟨rfl, hm⟩])
   ·have hr2 := run_append_nil_string (P := P) w t u o.type e i (.int .u8 0) ht hu hi hz s (by omega) (by omega) (by rw [hby]; omega)
    rw [hr] at hr2
    injection hr2 with e1 _
    exact .inr (by rw [e1]; rfl)
  ·by_cases hroom : n + s.size ≤ cap
   ·have hcs' : cur.size = cap := by simpa using hcs
    have hr2 := run_append_room_string (P := P) w t u o.type e i ht hu hi hsize g n cap cur hg s hroom (by omega)
    rw [hr] at hr2
    injection hr2 with e1 _
    exact .inl (by rw [e1]; rfl)
   ·have holds : ∀ j u, xs[j]? = some u → w.cell? ((⟨g, 0, none⟩ : Addr).add j) = some u := hown.cells (g := g) rfl
    have hr2 := run_append_grow_string (P := P) w t u o.type e i (.int .u8 0) ht hu hi hz ⟨g, 0, none⟩ n cap xs (by rw [hsize]; simpa using hxl) holds s (by omega) (by unfold maxLen at h63; omega) (by rw [hby]; exact growslice_fits (by omega) (by omega))
    rw [hr] at hr2
    injection hr2 with e1 _
    exact .inr (by rw [e1]; rfl)
 unfold Oper.wp execOp
 simp only [ho, resolve, invoke, builtin, Sem.run_bind, Sem.run_pure, Result.andThen_ok, List.map_toArray, List.map_cons, List.map_nil, hs, hx, hr]
 exact hK _ _ (h v' w' h2 h3 hat)
end Go.Tre
namespace Go.Proofs.YtaleodkbghogfaaGreatDoor.gr
open Go.RowKit Go.Maps Go.Tre
set_option maxHeartbeats 1000000 in
set_option maxRecDepth 100000 in
theorem writeStringM (w0 : World) (rs : List Res) (b : Nat) (p v : Value) (l : List UInt8) (s : ByteArray) (w : World) (h : Mem w0 w (cellsR b 52 #[p, v] :: rowR 5 1 v l.length (Lib.byteCells l) :: rs)) (hp : p = .pointer none ∨ p = .pointer (some ⟨b, 0, none⟩)) (hlen : l.length + s.size ≤ 140737488355328) :
  Calls Tryz.prog 23 #[.pointer (some ⟨b, 0, none⟩), .string s] w fun e w' => e = .returned (.tuple #[.int .i64 s.size, .nilIface]) ∧ ∃ v', Mem w0 w' (cellsR b 52 #[.pointer (some ⟨b, 0, none⟩), v'] :: rowR 5 1 v' (l ++ s.data.toList).length (Lib.byteCells (l ++ s.data.toList)) :: rs) := by
 obtain ⟨i0, hi, hz0, hz1, hz2⟩ := info_parts infoU8
 have CC : Calls Tryz.prog 41 #[.pointer (some ⟨b, 0, none⟩)] w fun e w' => e = .returned (.tuple #[]) ∧ Mem w0 w' (cellsR b 52 #[.pointer (some ⟨b, 0, none⟩), v] :: rowR 5 1 v l.length (Lib.byteCells l) :: rs) := by
  rcases hp with rfl | rfl
  ·refine (copyCheck_fresh b w (h.cell 0 rfl 0 rfl) (by simp [World.shape?, h.heap 0 rfl]) (h.free 0 rfl 0)).mono ?_
   rintro e w' ⟨rfl, rfl⟩
   exact ⟨rfl, h.setCell 0 rfl 0 _⟩
  ·refine (copyCheck_used b w (h.cell 0 rfl 0 rfl)).mono ?_
   rintro e w' ⟨rfl, rfl⟩
   exact ⟨rfl, h⟩
 have HCC := Tre.hid CC
 have HL : Hid ((l ++ s.data.toList).length = l.length + s.size) := by show _ = _; simp
 clear h hp CC
 go_enter Tryz.func23, Tryz.ntmps23
 go_wp2_with fail
 refine HCC.out.mono ?_
 rintro e w1 ⟨rfl, M1⟩
 have q1 := M1.cell 0 rfl 1 rfl
 have HM1 := Tre.hid M1
 clear M1 HCC
 go_wp2_with (at_builtin; refine wpList_append_string_at rfl _ _ 50 9 rfl 5 i0 Tryz.underlying50 Tryz.underlying9 hi hz0 hz1 hz2 _ _ _ rfl (HM1.out.row 1 rfl) s rfl ?c3 ?c4 ?_)
 case c3 => unfold maxLen; omega
 case c4 => omega
 intro v3 w3 hown3 hgrow3 hat3
 rw [bytes_app] at hown3
 have M3 := HM1.out.grow 1 rfl hgrow3 hown3 hat3
 obtain ⟨a3, c3, rfl, _⟩ := M3.val 1 rfl
 have q3 := M3.cell 0 rfl 1 rfl
 have f3 := M3.free 0 rfl 1
 have HM4 := Tre.hid (M3.setCell 0 rfl 1 (.slice a3 (l.length + s.size) c3))
 clear M3 hown3 hgrow3 hat3
 go_wp2_with fail
 go_ret2
 refine ⟨rfl, .slice a3 (l.length + s.size) c3, ?_⟩
 rw [HL.out]
 exact HM4.out
end Go.Proofs.YtaleodkbghogfaaGreatDoor.gr
namespace Go.Proofs.YtaleodkbghogfaaGreatDoor.gr
open Go.RowKit Go.Maps Go.Tre
def BldM (w0 w : World) (b : Nat) (l : List UInt8) (rs : List Res) : Prop :=
 ∃ p v, (p = .pointer none ∨ p = .pointer (some ⟨b, 0, none⟩)) ∧ Mem w0 w (cellsR b 52 #[p, v] :: rowR 5 1 v l.length (Lib.byteCells l) :: rs)
section
variable {w0 w w' : World} {b : Nat} {l : List UInt8} {rs ss : List Res}
theorem BldM.rest (h : BldM w0 w b l rs) : Mem w0 w rs := by obtain ⟨p, v, _, m⟩ := h; exact m.drop1.drop1
theorem BldM.below (h : BldM w0 w b l rs) : Below w0.heap.size w0 w := h.rest.below
theorem BldM.quiet (h : BldM w0 w b l rs) (k : Below w.heap.size w w') : BldM w0 w' b l rs := by obtain ⟨p, v, e, m⟩ := h; exact ⟨p, v, e, m.quiet k⟩
theorem BldM.drew (h : BldM w0 w b l rs) : BldM w0 w.drew b l rs := by obtain ⟨p, v, e, m⟩ := h; exact ⟨p, v, e, m.drew⟩
theorem BldM.subs (h : BldM w0 w b l rs) (s : ss.Sublist rs) : BldM w0 w b l ss := by obtain ⟨p, v, e, m⟩ := h; exact ⟨p, v, e, m.sub ((s.cons_cons _).cons_cons _)⟩
theorem BldM.allocR (h : BldM w0 w b l rs) (cs : Array Value) (t : TypeId) : BldM w0 (w.alloc (.cells cs t)) b l (cellsR w.heap.size t cs :: rs) := by
 obtain ⟨p, v, e, m⟩ := h
 exact ⟨p, v, e, (((m.allocR cs t).front 1 rfl).front 2 rfl).perm (List.Perm.swap ..)⟩
theorem BldM.new (h : Mem w0 w rs) : BldM w0 (w.alloc (.cells #[.pointer none, .slice none 0 0] 52)) w.heap.size [] rs :=
 ⟨_, _, .inl rfl, ((h.allocR #[.pointer none, .slice none 0 0] 52).addNil 5 1).perm (List.Perm.swap ..)⟩
theorem wByte (c : UInt8) (h : BldM w0 w b l rs) (hlen : l.length + 1 ≤ 140737488355328) : Calls Tryz.prog 22 #[.pointer (some ⟨b, 0, none⟩), .int .u8 c.toNat] w fun e w' => e = .returned .nilIface ∧ BldM w0 w' b (l ++ [c]) rs := by
 obtain ⟨p, v, hp, m⟩ := h
 refine (writeByte w0 rs b p v l c w m hp hlen).mono ?_
 rintro e w' ⟨rfl, v', m'⟩
 have e : (l ++ [c]).length = l.length + 1 := by simp
 exact ⟨rfl, _, v', .inr rfl, by rw [e]; exact m'⟩
theorem wStr (s : ByteArray) (h : BldM w0 w b l rs) (hlen : l.length + s.size ≤ 140737488355328) : Calls Tryz.prog 23 #[.pointer (some ⟨b, 0, none⟩), .string s] w fun e w' => e = .returned (.tuple #[.int .i64 s.size, .nilIface]) ∧ BldM w0 w' b (l ++ s.data.toList) rs := by
 obtain ⟨p, v, hp, m⟩ := h
 refine (writeStringM w0 rs b p v l s w m hp hlen).mono ?_
 rintro e w' ⟨rfl, v', m'⟩
 exact ⟨rfl, _, v', .inr rfl, m'⟩
theorem bText (h : BldM w0 w b l rs) : Calls Tryz.prog 25 #[.pointer (some ⟨b, 0, none⟩)] w fun e w' => e = .returned (.string ⟨l.toArray⟩) ∧ Below w0.heap.size w0 w' := by
 obtain ⟨p, v, hp, m⟩ := h
 exact builderTextM w0 rs b p v l ⟨l.toArray⟩ w m hp rfl
end
end Go.Proofs.YtaleodkbghogfaaGreatDoor.gr
namespace Go.Proofs.YtaleodkbghogfaaGreatDoor.gr
open Go.RowKit Go.Shelf Go.Maps Go.Tre lex
theorem node_held {w : World} {v : Value} {ds : List NodeV} {L : List Tre.Node} {k : Nat} (h : (nodesR v ds).P w) (hk : (kidsR ds).P w) (e : ds.map NodeV.n = L) (hl : k < L.length) :
  ∃ b c ax cx lx dx, v = .slice (some ⟨b, 0, none⟩) ds.length c ∧ w.cell? ⟨b, k * 5, none⟩ = some (.int .i64 L[k].kind) ∧ w.cell? ⟨b, k * 5 + 1, none⟩ = some (.string L[k].name) ∧ w.cell? ⟨b, k * 5 + 2, none⟩ = some (.slice ax L[k].args.length cx) ∧
   w.cell? ⟨b, k * 5 + 3, none⟩ = some (.slice lx L[k].labels.length dx) ∧ w.cell? ⟨b, k * 5 + 4, none⟩ = some (.bool L[k].isOpen) ∧ L[k].args.length ≤ cx ∧ L[k].labels.length ≤ dx ∧ ∀ W, (kidsR ds).P W → IntsAt W ax L[k].args ∧ StrsAt W lx L[k].labels := by
 subst e
 rw [List.length_map] at hl
 have hd : ds[k]? = some ds[k] := List.getElem?_eq_getElem hl
 have hmem := List.getElem_mem hl
 have hx : (ds.map NodeV.n)[k]'(by rw [List.length_map]; exact hl) = ds[k].n := by rw [List.getElem_map]
 rw [hx]
 generalize ds[k] = d at *
 have rows : ∀ W, (kidsR ds).P W → NodeVal W d := fun W hW => NodeVal.kids fun r hr => hW r (List.mem_flatMap.2 ⟨d, hmem, hr⟩)
 have h' : w.ownsRow 0 33 5 v ds.length (ds.flatMap NodeV.cells) := h
 obtain ⟨ax, cx, lx, dx, e1, e2, _, _, e5, e6⟩ := rows w hk
 rcases h'.2 with ⟨_, e4⟩ | ⟨g, cap, cur, rfl, _⟩
 ·omega
 ·obtain ⟨a', c', e3, _, hrow⟩ := row_read h'
  cases e3
  have rest : ∀ j u, j < 5 → d.cells[j]? = some u → w.cell? ⟨g, k * 5 + j, none⟩ = some u := fun j u hj hu => by
   obtain ⟨b', off', e', c'⟩ := hrow.at_ (k * 5 + j) u ((cells_at ds k j d hd hj).trans hu)
   cases e'
   rw [Nat.zero_add] at c'; exact c'
  have r2 := rest 2 _ (by omega) rfl
  have r3 := rest 3 _ (by omega) rfl
  rw [e1] at r2
  rw [e2] at r3
  refine ⟨g, _, ax, cx, lx, dx, rfl, rest 0 _ (by omega) rfl, rest 1 _ (by omega) rfl, r2, r3, rest 4 _ (by omega) rfl, e5, e6, fun W hW => ?_⟩
  obtain ⟨aa, ca, al, cl, f1, f2, f3, f4, _⟩ := rows W hW
  rw [e1] at f1
  rw [e2] at f2
  cases f1
  cases f2
  exact ⟨f3, f4⟩
end Go.Proofs.YtaleodkbghogfaaGreatDoor.gr
