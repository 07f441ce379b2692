/- CanonTwice: the walk. What a row that lists the library's variables tells of the world: what the lexer wants. -/
import Derived.Test.YtaleodkbghogfaaGreatDoorB37
import Derived.Test.YtaleodkbghogfaaGreatDoorB01
import Derived.Test.YtaleodkbghogfaaGreatDoorB39
import Derived.Test.YtaleodkbghogfaaGreatDoorB40
import Derived.Test.YtaleodkbghogfaaGreatDoorB26
import Derived.Deep.DeepCutAuto
import Derived.IntWalk
import Derived.Test.YtaleodkbghogfaaGreatDoorB16
import Derived.Test.YtaleodkbghogfaaGreatDoorRows
import Derived.Lib.LaidTab
import Derived.LaidSub
import Derived.LaidMore
import Derived.LaidHandle
import Derived.LaidLaws
import Derived.WalkKit
set_option linter.unusedVariables false
namespace Go.Proofs.YtaleodkbghogfaaGreatDoor.gr
open Go.RowKit Go.Shelf Go.Maps Go.Tre lex
set_option maxRecDepth 100000 in
set_option maxHeartbeats 16000000 in
theorem ctwiceLaw (a : Option Addr) (ca : Nat) (g : Tre.Graph) (which : Int) (w : World) (hg : NodesAt w a g.ns) (wg : g.weight ≤ 1048576) (E : LexEnv w) (ht : TabAt w) :
  Calls Tryz.prog 3 #[.agg #[.slice a g.ns.length ca, .int .i64 g.root], .int .u64 which] w fun e w' => e = .returned (.bool true) ∧ Below w.heap.size w w' := by
 have M := (Mem.nil w).allocR #[.slice a g.ns.length ca, .int .i64 g.root] 24
 have HX := Tre.hid E.max
 have HT := Tre.hid ht
 have HG := Tre.hid hg
 have HAL := Tre.hid (alive09 _ (E.below M.below) (ht.below M.below))
 have HM0 := Tre.hid M
 clear E ht hg M
 go_enter Tryz.func3, Tryz.ntmps3
 go_wp2_with fail
 refine HAL.out.mono ?_
 rintro e w1 ⟨rfl, b1⟩
 have M1 := HM0.out.quiet b1
 obtain ⟨g0, g1⟩ := M1.two 0 rfl
 have HM1 := Tre.hid M1
 clear M1 b1 HAL
 go_wp2_with fail
 refine (great.great a ca g _ (by omega) (HG.out.below HM1.out.below)).mono ?_
 rintro e w2 ⟨rfl, b2⟩
 clear g0 g1
 have M2 := HM1.out.quiet b2
 obtain ⟨g0, g1⟩ := M2.two 0 rfl
 have HM2 := Tre.hid M2
 clear M2 b2
 by_cases t2 : (200 : Int) < g.great
 ·have t := t2
  go_wp2_with fail
  go_ret
  exact ⟨rfl, HM2.out.below⟩
 have hgl : g.ns.length ≤ 200 := by have := g.great_len; omega
 go_wp2_with fail
 refine (check_any a ca g _ (HG.out.below HM2.out.below) (by omega) (HX.out.below HM2.out.below)).mono ?_
 rintro e w3 ⟨rfl, b3⟩
 clear g0 g1
 have M3 := HM2.out.quiet b3
 have HM3 := Tre.hid M3
 obtain ⟨g0, g1⟩ := M3.two 0 rfl
 clear M3 b3
 by_cases t3 : g.checkC ≠ 0
 ·have t := not_ok t3
  go_wp2_with fail
  go_ret
  exact ⟨rfl, HM3.out.below⟩
 have cg : g.checkC = 0 := by omega
 have u3 : (g.checkC != 0) = false := by rw [cg]; rfl
 have OG := Tre.hid (Graph.ok_of cg)
 have CG := Tre.hid cg
 obtain ⟨r, hr⟩ : ∃ r : Nat, g.root = (r : Int) := ⟨g.root.toNat, by have := OG.out.root0; omega⟩
 have hrl : r < g.ns.length := by have := OG.out.root1; omega
 obtain ⟨b1, o1, rfl, hx0⟩ := HG.out.at_ 0 g.ns[0] (List.getElem?_eq_getElem (by omega))
 clear hx0
 obtain ⟨ji, K1, K2, K3, K4⟩ := info_parts infoI
 have L1 := Tre.hid K1
 have L2 := Tre.hid K2
 have L3 := Tre.hid K3
 have L4 := Tre.hid K4
 obtain ⟨ni, I1, I2, I3, I4⟩ := info_parts infoN
 have J1 := Tre.hid I1
 have J2 := Tre.hid I2
 have J3 := Tre.hid I3
 have J4 := Tre.hid I4
 have LW : Hid (g.leastG.weight ≤ 1048576) := by show _ ≤ _; refine Nat.le_trans (Graph.trim_weight _) ?_; rw [quot_weight]; exact wg
 have HGR := Tre.hid hr
 obtain ⟨n, hn⟩ : ∃ n : Nat, g.ns.length = n := ⟨_, rfl⟩
 have HGN := Tre.hid hn
 have HM4 : Hid (Mem w w3 [cellsR w.heap.size 24 #[.slice (some ⟨b1, o1, none⟩) n ca, .int .i64 (r : Int)]]) := by show Mem _ _ _; rw [← hn, ← hr]; exact HM3.out
 rw [hn] at g0 hgl hrl ⊢
 rw [hr] at g1 ⊢
 clear cg t3 hr hn K1 K2 K3 K4 I1 I2 I3 I4 HM0 HM1 HM2 HM3
 have MB := HM4.out.allocR #[.slice none 0 0, .int .i64 (r : Int)] 24
 have HMB : Hid (Mem w _ [nodesR (.slice none 0 0) [], argsR [], cellsR w3.heap.size 24 #[.slice none 0 0, .int .i64 (r : Int)], cellsR w.heap.size 24 #[.slice (some ⟨b1, o1, none⟩) n ca, .int .i64 (r : Int)]]) := MB.addMany.addNil 33 5
 have MA := HM4.out.allocR #[.slice none 0 0, .int .i64 0] 24
 have c0 := MA.cell 0 rfl 0 rfl
 have c1 := MA.cell 0 rfl 1 rfl
 have c2 := MA.free 0 rfl 1
 have hge0 := MA.cell 1 rfl 0 rfl
 have hge1 := MA.cell 1 rfl 1 rfl
 have h2n : (2 : Int) * (n : Int) ≤ 400 := by omega
 clear MA MB
 go_wp2_with fail
 clear c0 c1 c2 hge0 hge1 g0 g1 HM4
 generalize w3.alloc (.cells #[.slice none 0 0, .int .i64 (r : Int)] 24) = wz at *
 generalize w3.heap.size = b6 at *
 go_loopw [31] (fun v31 wr => ∃ (k : Nat) (aN : Option Addr) (cN : Nat) (ds : List NodeV) (bit : Nat → Nat → Bool), k ≤ 2 * n ∧ v31 = .int .i64 (k : Int) ∧ Hid (ds.map NodeV.n = (List.range k).map (twNode g bit)) ∧ Hid (LabsOf w ds) ∧ Hid (Mem w wr [nodesR (.slice aN ds.length cN) ds, argsR ds, cellsR b6 24 #[.slice aN ds.length cN, .int .i64 (r : Int)], cellsR w.heap.size 24 #[.slice (some ⟨b1, o1, none⟩) n ca, .int .i64 (r : Int)]]))
  (fun v31 _ => 2 * n - (intOf v31).toNat)
 case atStart => exact ⟨0, none, 0, [], fun _ _ => false, Nat.zero_le _, rfl, rfl, fun d hd => by simp at hd, HMB.out⟩
 case round =>
  obtain ⟨k, aN, cN, ds, bit, hk, rfl, hds, hLB, HQ⟩ := hrel
  have hd4 : ds.length ≤ 400 := by have := congrArg List.length hds.out; rw [List.length_map, List.length_map, List.length_range] at this; omega
  by_cases hlt : k < 2 * n
  ·obtain ⟨q, hq⟩ : ∃ q : Nat, k % n = q := ⟨_, rfl⟩
   have hkm : q < n := by rw [← hq]; exact Nat.mod_lt _ (by omega)
   have HKN : Hid ((k : Int).tmod (n : Int) = (q : Int)) := by show _ = _; rw [Int.tmod_eq_emod_of_nonneg (by omega), ← hq]; omega
   have hkg : q < g.ns.length := by rw [HGN.out]; exact hkm
   obtain ⟨b1', o1', e0, nx⟩ := HG.out.at_ q (g.nd q) (by rw [Graph.nd_eq hkg]; exact List.getElem?_eq_getElem hkg)
   cases e0
   have hXw : (g.nd q).weight ≤ g.weight := by rw [Graph.nd_eq hkg]; exact node_weight (List.getElem_mem hkg)
   have hxa := args_len (g.nd q)
   have hxb := labels_len (g.nd q)
   have HAX := Tre.hid (OG.out.kids_eq hkg)
   have HKL := Tre.hid (OG.out.kids_lt hkg)
   have HTN : Hid (∀ bit, twNode g bit k = { g.nd q with args := (g.nd q).args.mapIdx fun i a => twArg g bit k i a }) := fun bit => by unfold twNode; rw [HGN.out, hq]
   have HKY : Hid (∀ j (hj : j < (g.nd q).args.length), ∃ y : Nat, (g.nd q).args[j] = (y : Int) ∧ y < n) := fun j hj => by
    obtain ⟨y, hy, _, hy2⟩ := OG.out.arg hkg (show j < g.deg q from hj)
    rw [List.getElem?_eq_getElem hj] at hy
    exact ⟨y, Option.some.inj hy, by rw [← HGN.out]; exact hy2⟩
   clear hq
   generalize hX : g.nd q = X at *
   obtain ⟨ax, cx, lx, dx, x0, x1, x2, x3, x4, xA, xL, hca, hcl⟩ := nx
   have X0 := Tre.hid x0
   have X1 := Tre.hid x1
   have X2 := Tre.hid x2
   have X3 := Tre.hid x3
   have X4 := Tre.hid x4
   have XA := Tre.hid xA
   have XL := Tre.hid xL
   have m1 : (0 : Int) ≤ (q : Int) := by omega
   have m2 : (q : Int) < (n : Int) := by omega
   clear x0 x1 x2 x3 x4 xA xL hkg
   go_upto_region 11 with fail
   have hn0 : ¬ n = 0 := by omega
   have hkq := HKN.out
   rw [show decide ((k : Int) < 2 * (n : Int)) = true from decide_eq_true (by omega)]
   have HLT := Tre.hid hlt
   clear hlt
   refine wp_region_keep (S := (fun w' => w'.cell? ⟨w.heap.size, 0, none⟩ = some (.slice (some ⟨b1, o1, none⟩) n ca) ∧ w'.cell? ⟨b1, o1 + q * 5, none⟩ = some (.int .i64 X.kind) ∧ w'.cell? ⟨b1, o1 + q * 5 + 1, none⟩ = some (.string X.name) ∧ w'.cell? ⟨b1, o1 + q * 5 + 2, none⟩ = some (.slice ax X.args.length cx) ∧ w'.cell? ⟨b1, o1 + q * 5 + 3, none⟩ = some (.slice lx X.labels.length dx) ∧ w'.cell? ⟨b1, o1 + q * 5 + 4, none⟩ = some (.bool X.isOpen))) [8] (by kernel_rfl) ?_ (fun hH => ?_)
   ·exact (show _ from ⟨HQ.out.drew.cell 3 rfl 0 rfl, cell_below HQ.out.drew.below X0.out, cell_below HQ.out.drew.below X1.out, cell_below HQ.out.drew.below X2.out, cell_below HQ.out.drew.below X3.out, cell_below HQ.out.drew.below X4.out⟩)
   have HC := Tre.hid HQ.out.drew
   generalize hq : World.drew _ = wq0 at HC hH ⊢
   clear hq
   refine lPu 0 (some 34) (.pointer (some ⟨w.heap.size, 0, none⟩)) (by kernel_rfl) (fun _ _ _ h => h) (fun w => by kernel_rfl) (keep_of hH) ?_
   try simp only [Act.put, Tre.qf, Tre.qg, Tre.qh]
   refine lTake (i := 1) (some 35) (v := ?_) (by rfl) (by kernel_rfl) (by kernel_rfl) (by kernel_rfl) (by kernel_rfl) (by kernel_rfl) (fun _ _ _ h => h) (by rfl) ?_ hH ?_
   rotate_left
   ·intro w hSw; (try dsimp only at hSw); simp only [Tre.qa, Tre.qb, Tre.qc, Tre.qd, Tre.qe]; (first | (go_simp; done) | (go_simp; with_reducible rfl))
   try simp only [Act.put, Tre.qf, Tre.qg, Tre.qh]
   refine lPu 2 (some 36) (.int .i64 (k : Int)) (by kernel_rfl) (fun _ _ _ h => h) (fun w => by kernel_rfl) (keep_of hH) ?_
   refine lPu 3 (some 37) (.int .i64 (n : Int)) (by kernel_rfl) (fun _ _ _ h => h) (fun w => by kernel_rfl) (keep_of hH) ?_
   try simp only [Act.put, Tre.qf, Tre.qg, Tre.qh]
   refine lPure (i := 4) (some 38) (v := ?_) (by rfl) (by kernel_rfl) (by kernel_rfl) (by kernel_rfl) (by kernel_rfl) (fun _ _ _ h => h) (by rfl) ?_ (keep_of hH) ?_
   rotate_left
   ·intro w; simp only [Tre.qa, Tre.qb, Tre.qc, Tre.qd, Tre.qe]; (first | (go_simp; done) | (go_simp; with_reducible rfl))
   try simp only [Act.put, Tre.qf, Tre.qg, Tre.qh]
   refine lPure (i := 5) (some 39) (v := ?_) (by rfl) (by kernel_rfl) (by kernel_rfl) (by kernel_rfl) (by kernel_rfl) (fun _ _ _ h => h) (by rfl) ?_ (keep_of hH) ?_
   rotate_left
   ·intro w; simp only [Tre.qa, Tre.qb, Tre.qc, Tre.qd, Tre.qe]; (first | (go_simp; done) | (go_simp; with_reducible rfl))
   try simp only [Act.put, Tre.qf, Tre.qg, Tre.qh]
   refine lTake (i := 6) (some 40) (v := ?_) (by rfl) (by kernel_rfl) (by kernel_rfl) (by kernel_rfl) (by kernel_rfl) (by kernel_rfl) (fun _ _ _ h => h) (by rfl) ?_ hH ?_
   rotate_left
   ·intro w hSw; (try dsimp only at hSw); simp only [Tre.qa, Tre.qb, Tre.qc, Tre.qd, Tre.qe]; (first | (go_simp; done) | (go_simp; with_reducible rfl))
   try simp only [Act.put, Tre.qf, Tre.qg, Tre.qh]
   try simp only [Act.put, Tre.qf, Tre.qg, Tre.qh]
   refine with_G (G0 := wpAnyL _ _ _ _ _ _) ?_
   intro G hG a0 hA
   have Z0 : Kept (∀ (b8 : Nat) (wq : World), Hid (Mem w wq [cellsR b8 33 #[.int .i64 X.kind, .string X.name, .slice ax X.args.length cx, .slice lx X.labels.length dx, .bool X.isOpen], nodesR (.slice aN ds.length cN) ds, argsR ds, cellsR b6 24 #[.slice aN ds.length cN, .int .i64 (r : Int)], cellsR w.heap.size 24 #[.slice (some ⟨b1, o1, none⟩) n ca, .int .i64 (r : Int)]]) → G 0 (bt 9 511) (a0.put (some 8) (.pointer (some ⟨b8, 0, none⟩))) wq) := ⟨by
    intro b8 wq HC
    refine into_G hG ?_
    rw [hA.out]
    simp only [Act.put, Tre.qf, Tre.qg, Tre.qh]
    refine lDone (by kernel_rfl) ?_
    clear hA hG
    have HC8 := HC
    clear HC
    have MA := HC8.out.allocRow #[] 3 1 0 (by unfold maxLen; omega) rfl
    obtain ⟨z0, z1, z2, z3, z4⟩ := five HC8.out 0 rfl
    have HMA := Tre.hid MA
    have HXA : Hid (∀ W, Below w.heap.size w W → IntsAt W ax X.args) := fun W hW => XA.out.below hW
    obtain ⟨zz0, zz1, zz2, zz3, zz4⟩ := five MA 1 rfl
    have hone : ∀ u ∈ X.args.map (Value.int .i64), u.oneCell' = true := fun u hu => by
     obtain ⟨q, _, rfl⟩ := List.mem_map.1 hu; rfl
    have HON := Tre.hid hone
    clear MA hone
    go_wp2_with (at_builtin; refine wpList_append_row _ rfl _ _ 30 rfl 3 ji _ 1 8 Tryz.underlying30 L1.out L2.out L3.out L4.out rfl (by omega) (.slice (some ⟨wq.heap.size, 0, none⟩) 0 0) 0 [] rfl (HMA.out.row 0 rfl) ax X.args.length cx (X.args.map (Value.int .i64)) rfl (HXA.out _ HMA.out.below) HON.out (by unfold maxLen; omega) (by omega) ?_; intro v' w8 hown4 hgrow4 hat4; simp only [Nat.zero_add, List.nil_append] at hown4; have M4 := HMA.out.grow 0 rfl hgrow4 hown4 hat4; obtain ⟨aA, cA, rfl, _⟩ := M4.val 0 rfl; have HM4 := Tre.hid M4; clear M4 hown4 hgrow4 hat4)
    clear z0 z1 z2 z3 z4 zz0 zz1 zz2 zz3 zz4 HMA HC8
    have HMI : Hid (Mem w w8 [rowR 3 1 (.slice aA X.args.length cA) X.args.length ((twRow g (fun _ => false) 0 X.args).map (Value.int .i64)), cellsR b8 33 #[.int .i64 X.kind, .string X.name, .slice ax X.args.length cx, .slice lx X.labels.length dx, .bool X.isOpen], nodesR (.slice aN ds.length cN) ds, argsR ds, cellsR b6 24 #[.slice aN ds.length cN, .int .i64 (r : Int)], cellsR w.heap.size 24 #[.slice (some ⟨b1, o1, none⟩) n ca, .int .i64 (r : Int)]]) := by show Mem _ _ _; rw [twRow_zero]; exact HM4.out
    clear HM4
    go_loopg [47] X.args.length (fun gk v47 wr => ∃ (j : Nat) (f : Nat → Bool), gk + j = X.args.length ∧ v47 = .int .i64 (j : Int) ∧ Hid (Mem w wr [rowR 3 1 (.slice aA X.args.length cA) X.args.length ((twRow g f j X.args).map (Value.int .i64)), cellsR b8 33 #[.int .i64 X.kind, .string X.name, .slice ax X.args.length cx, .slice lx X.labels.length dx, .bool X.isOpen], nodesR (.slice aN ds.length cN) ds, argsR ds, cellsR b6 24 #[.slice aN ds.length cN, .int .i64 (r : Int)], cellsR w.heap.size 24 #[.slice (some ⟨b1, o1, none⟩) n ca, .int .i64 (r : Int)]]))
    case atStart => exact ⟨0, fun _ => false, rfl, rfl, HMI.out⟩
    case round =>
     obtain ⟨j, f, hj, rfl, HI⟩ := hrel
     by_cases hjl : j < X.args.length
     ·have hta := twRow_at (g := g) (f := f) hjl
      obtain ⟨gA, rfl, _, _, hcj⟩ := HI.out.getRow 0 rfl j (u := .int .i64 X.args[j]) (by rw [List.getElem?_map, hta]; rfl)
      obtain ⟨y, hy, hyl⟩ := HKY.out j hjl
      have hyg : y < g.ns.length := by rw [HGN.out]; exact hyl
      obtain ⟨b1', o1', e0, nx⟩ := HG.out.at_ y (g.nd y) (by rw [Graph.nd_eq hyg]; exact List.getElem?_eq_getElem hyg)
      cases e0
      have HGO : Hid (freeC (g.nd y) = false → (twRow g f j X.args).set j ((y : Int) + (n : Int)) = twRow g (fun i => if i = j then true else f i) (j + 1) X.args) := fun hf => by
       have := twRow_go (g := g) (f := f) hjl (by rw [hy]; exact hf)
       rw [hy, HGN.out] at this
       exact this
      have HKE : Hid (twRow g f j X.args = twRow g (fun i => if i = j then false else f i) (j + 1) X.args) := twRow_keep hjl false (by simp)
      have hfc : freeC (g.nd y) = (decide ((g.nd y).kind = 1) || (g.nd y).isOpen) := rfl
      generalize hY : g.nd y = Y at *
      obtain ⟨ay, cy, ly, dy, y0, y1, y2, y3, y4, yA, yL, hcya, hcyl⟩ := nx
      have Y0 := Tre.hid y0
      have Y1 := Tre.hid y1
      have Y2 := Tre.hid y2
      have Y3 := Tre.hid y3
      have Y4 := Tre.hid y4
      rw [hy] at hcj
      have n1 : (0 : Int) ≤ (y : Int) := by omega
      have n2 : (y : Int) < (n : Int) := by omega
      have n3 : (0 : Int) ≤ (j : Int) := by omega
      have n4 : (j : Int) < (X.args.length : Int) := by omega
      have HFC := Tre.hid hfc
      clear y0 y1 y2 y3 y4 yA yL hyg hY hta hfc hy
      have y0 := cell_below HI.out.below Y0.out
      have y1 := cell_below HI.out.below Y1.out
      have y2 := cell_below HI.out.below Y2.out
      have y3 := cell_below HI.out.below Y3.out
      have y4 := cell_below HI.out.below Y4.out
      have hgb := HI.out.cell 5 rfl 0 rfl
      by_cases k1 : Y.kind = 1
      ·have MC := HI.out.allocR #[.int .i64 Y.kind, .string Y.name, .slice ay Y.args.length cy, .slice ly Y.labels.length dy, .bool Y.isOpen] 33
       obtain ⟨z0, z1, z2, z3, z4⟩ := five MC 0 rfl
       have HC := Tre.hid MC
       clear MC HI
       have q1 : (Y.kind != 1) = false := by simp [k1]
       clear k1
       go_wp2_with fail
       go_roundg (X.args.length - (j + 1))
       case measure => omega
       case rel => exact ⟨j + 1, fun i => if i = j then false else f i, by omega, by go_num, by show Mem _ _ _; rw [← HKE.out]; exact HC.out.del 0⟩
      ·have q1 : (Y.kind != 1) = true := by simp [k1]
       cases ho : Y.isOpen with
       | true =>
        rw [ho] at y4
        have MC := HI.out.allocR #[.int .i64 Y.kind, .string Y.name, .slice ay Y.args.length cy, .slice ly Y.labels.length dy, .bool true] 33
        obtain ⟨z0, z1, z2, z3, z4⟩ := five MC 0 rfl
        have HC := Tre.hid MC
        clear MC HI
        clear k1 ho
        go_wp2_with fail
        go_roundg (X.args.length - (j + 1))
        case measure => omega
        case rel => exact ⟨j + 1, fun i => if i = j then false else f i, by omega, by go_num, by show Mem _ _ _; rw [← HKE.out]; exact HC.out.del 0⟩
       | false =>
        rw [ho] at y4
        have HF : Hid (freeC Y = false) := by show _ = _; rw [HFC.out, ho]; simp [k1]
        have MC := HI.out.allocR #[.int .i64 Y.kind, .string Y.name, .slice ay Y.args.length cy, .slice ly Y.labels.length dy, .bool false] 33
        obtain ⟨z0, z1, z2, z3, z4⟩ := five MC 0 rfl
        have HC := Tre.hid MC
        clear MC
        have hsum : (y : Int) + (n : Int) ≤ 400 := by omega
        clear k1 ho
        go_upto_region 17 with fail
        go_cut [76] (fun s76 wx => (∃ bb : Bool, s76 = .bool bb) ∧ wx = wr.alloc (.cells #[.int .i64 Y.kind, .string Y.name, .slice ay Y.args.length cy, .slice ly Y.labels.length dy, .bool false] 33))
        case first =>
         go_wp2_with fail
         all_goals go_meet
         all_goals exact ⟨⟨_, rfl⟩, rfl⟩
        case rest =>
         obtain ⟨⟨bb, rfl⟩, rfl⟩ := hcut
         have hfz := HC.out.freeAt 1 rfl j
         cases bb with
         | true =>
          go_wp2_with fail
          go_roundg (X.args.length - (j + 1))
          case measure => omega
          case rel =>
           refine ⟨j + 1, fun i => if i = j then true else f i, by omega, by go_num, ?_⟩
           show Mem _ _ _
           rw [← HGO.out HF.out, List.map_set]
           exact (HI.out.setRow 0 rfl j (.int .i64 ((y : Int) + (n : Int)))).alloc _
         | false =>
          go_wp2_with fail
          go_roundg (X.args.length - (j + 1))
          case measure => omega
          case rel => exact ⟨j + 1, fun i => if i = j then false else f i, by omega, by go_num, by show Mem _ _ _; rw [← HKE.out]; exact HC.out.del 0⟩
     ·have e : j = X.args.length := by omega
      subst e
      have HTA : Hid (∀ bit' : Nat → Nat → Bool, (∀ i, bit' k i = f i) → twRow g f X.args.length X.args = X.args.mapIdx fun i a => twArg g bit' k i a) := fun bit' hb => twRow_all hb
      have HIL : Hid ((twRow g f X.args.length X.args).length = X.args.length) := twRow_len
      generalize hargs : twRow g f X.args.length X.args = args' at *
      clear hargs
      have f2 := HI.out.free 1 rfl 2
      obtain ⟨y0, y1, y2, y3, y4⟩ := five HI.out 1 rfl
      have M8 := HI.out.setCell 1 rfl 2 (.slice aA X.args.length cA)
      obtain ⟨ww2, hww⟩ : ∃ ww : World, wr.setCell ⟨b8, 2, none⟩ (.slice aA X.args.length cA) = ww := ⟨_, rfl⟩
      rw [hww] at M8
      obtain ⟨t0, t1, t2', t3, t4⟩ := five M8 1 rfl
      have MB := Tre.hid (M8.allocRow #[.int .i64 X.kind, .string X.name, .slice aA X.args.length cA, .slice lx X.labels.length dx, .bool X.isOpen] 33 5 1 (by unfold maxLen; omega) rfl)
      obtain ⟨p0, p1⟩ := M8.two 4 rfl
      clear HI M8
      go_wp2_with (at_builtin; refine wpList_append_row _ rfl _ _ 22 rfl 33 ni _ 5 80 Tryz.underlying22 J1.out J2.out J3.out J4.out rfl (by omega) (.slice aN ds.length cN) ds.length (ds.flatMap NodeV.cells) rfl (MB.out.row 3 rfl) (some ⟨ww2.heap.size, 0, none⟩) 1 1 [.int .i64 X.kind, .string X.name, .slice aA X.args.length cA, .slice lx X.labels.length dx, .bool X.isOpen] rfl ⟨rfl, fun j u hj => ⟨_, 0, rfl, by rw [Nat.zero_add]; exact MB.out.cellAt 0 rfl j hj⟩⟩ (by simp [Value.oneCell']) (by unfold maxLen; omega) (by omega) ?_; intro v' w9 hown4 hgrow4 hat4; have M4 := MB.out.grow 3 rfl hgrow4 hown4 hat4; obtain ⟨a4, c4, rfl, _⟩ := M4.val 3 rfl; have q6 : w9.cell? ⟨b6, 0, none⟩ = some (.slice aN ds.length cN) := M4.cell 5 rfl 0 rfl; have f6 := M4.free 5 rfl 0; have HM4 := Tre.hid (M4.setCell 5 rfl 0 (.slice a4 (ds.length + 1) c4)); clear M4 hown4 hgrow4 hat4)
      clear hww
      go_roundw
      case rel =>
       refine ⟨k + 1, a4, c4, ds ++ [⟨{ X with args := args' }, .slice aA X.args.length cA, .slice lx X.labels.length dx⟩], fun m i => if m = k then f i else bit m i, by have := HLT.out; omega, by go_num, ?_, ?_, ?_⟩
       ·show _ = _
        rw [List.map_append, hds.out, List.range_succ, List.map_append, twNodes_congr (bit' := fun m i => if m = k then f i else bit m i) (fun m i hm => by simp [show m ≠ k by omega])]
        rw [HTA.out (fun m i => if m = k then f i else bit m i) (fun i => by simp)]
        rw [List.map_singleton, List.map_singleton, HTN.out]
       ·exact hLB.out.snoc ⟨lx, dx, rfl, XL.out, hcl⟩
       ·have hl1 : (ds ++ [(⟨{ X with args := args' }, .slice aA X.args.length cA, .slice lx X.labels.length dx⟩ : NodeV)]).length = ds.length + 1 := by simp
        rw [hl1]
        show Mem _ _ _
        rw [nodesR_snoc, argsR_snoc]
        have e3 : ({ X with args := args' } : Tre.Node).args.length = X.args.length := HIL.out
        rw [e3]
        exact ((HM4.out.del 0).del 1).push1
      case measure => have := HLT.out; simp [intOf]; omega
   ⟩
   have Z1 : Kept (∀ (b8 : Nat) (wq : World), Hid (Mem w wq [cellsR b8 33 #[.int .i64 0, .string { data := #[] }, .slice none 0 0, .slice none 0 0, .bool false], nodesR (.slice aN ds.length cN) ds, argsR ds, cellsR b6 24 #[.slice aN ds.length cN, .int .i64 (r : Int)], cellsR w.heap.size 24 #[.slice (some ⟨b1, o1, none⟩) n ca, .int .i64 (r : Int)]]) → G 1 (bt 9 255) (a0.put (some 8) (.pointer (some ⟨b8, 0, none⟩))) wq) := ⟨by
    intro b8 wq HC
    refine into_G hG ?_
    rw [hA.out]
    simp only [Act.put, Tre.qf, Tre.qg, Tre.qh]
    have hH : (fun w' => w'.cell? ⟨w.heap.size, 0, none⟩ = some (.slice (some ⟨b1, o1, none⟩) n ca) ∧ w'.cell? ⟨b1, o1 + q * 5, none⟩ = some (.int .i64 X.kind) ∧ w'.cell? ⟨b1, o1 + q * 5 + 1, none⟩ = some (.string X.name) ∧ w'.cell? ⟨b1, o1 + q * 5 + 2, none⟩ = some (.slice ax X.args.length cx) ∧ w'.cell? ⟨b1, o1 + q * 5 + 3, none⟩ = some (.slice lx X.labels.length dx) ∧ w'.cell? ⟨b1, o1 + q * 5 + 4, none⟩ = some (.bool X.isOpen)) wq := ⟨HC.out.cell 4 rfl 0 rfl, cell_below HC.out.below X0.out, cell_below HC.out.below X1.out, cell_below HC.out.below X2.out, cell_below HC.out.below X3.out, cell_below HC.out.below X4.out⟩
    refine lOne 8 (by kernel_rfl) ?_
    ·
     refine (LFall.op (by kernel_rfl) (fun K hK => ?_))
     have z0 := HC.out.free 0 rfl 0
     have z1 := HC.out.free 0 rfl 1
     have z2 := HC.out.free 0 rfl 2
     have z3 := HC.out.free 0 rfl 3
     have z4 := HC.out.free 0 rfl 4
     obtain ⟨y0, y1, y2, y3, y4⟩ := five HC.out 0 rfl
     have HN := Tre.hid (((((HC.out.setCell 0 rfl 0 (.int .i64 X.kind)).setCell 0 rfl 1 (.string X.name)).setCell 0 rfl 2 (.slice ax X.args.length cx)).setCell 0 rfl 3 (.slice lx X.labels.length dx)).setCell 0 rfl 4 (.bool X.isOpen))
     go_simp
     clear z0 z1 z2 z3 z4 y0 y1 y2 y3 y4
     generalize hw : World.setCell _ ⟨b8, 4, none⟩ _ = wr at HN ⊢
     clear hw
     refine hK.out _ _ ?_
     exact outof_G hG (Z0.out b8 wr HN) (by kernel_rfl) (by rw [hA.out]; try kernel_rfl)
   ⟩
   have Z2 : Kept (∀ (wq : World), Hid (Mem w wq [nodesR (.slice aN ds.length cN) ds, argsR ds, cellsR b6 24 #[.slice aN ds.length cN, .int .i64 (r : Int)], cellsR w.heap.size 24 #[.slice (some ⟨b1, o1, none⟩) n ca, .int .i64 (r : Int)]]) → G 2 (bt 9 127) (a0) wq) := ⟨by
    intro  wq HC
    refine into_G hG ?_
    rw [hA.out]
    have hH : (fun w' => w'.cell? ⟨w.heap.size, 0, none⟩ = some (.slice (some ⟨b1, o1, none⟩) n ca) ∧ w'.cell? ⟨b1, o1 + q * 5, none⟩ = some (.int .i64 X.kind) ∧ w'.cell? ⟨b1, o1 + q * 5 + 1, none⟩ = some (.string X.name) ∧ w'.cell? ⟨b1, o1 + q * 5 + 2, none⟩ = some (.slice ax X.args.length cx) ∧ w'.cell? ⟨b1, o1 + q * 5 + 3, none⟩ = some (.slice lx X.labels.length dx) ∧ w'.cell? ⟨b1, o1 + q * 5 + 4, none⟩ = some (.bool X.isOpen)) wq := ⟨HC.out.cell 3 rfl 0 rfl, cell_below HC.out.below X0.out, cell_below HC.out.below X1.out, cell_below HC.out.below X2.out, cell_below HC.out.below X3.out, cell_below HC.out.below X4.out⟩
    refine lOne 7 (by kernel_rfl) ?_
    ·
     have HN := Tre.hid (HC.out.allocR #[.int .i64 0, .string { data := #[] }, .slice none 0 0, .slice none 0 0, .bool false] 33)
     have hH2 : (fun w' => w'.cell? ⟨w.heap.size, 0, none⟩ = some (.slice (some ⟨b1, o1, none⟩) n ca) ∧ w'.cell? ⟨b1, o1 + q * 5, none⟩ = some (.int .i64 X.kind) ∧ w'.cell? ⟨b1, o1 + q * 5 + 1, none⟩ = some (.string X.name) ∧ w'.cell? ⟨b1, o1 + q * 5 + 2, none⟩ = some (.slice ax X.args.length cx) ∧ w'.cell? ⟨b1, o1 + q * 5 + 3, none⟩ = some (.slice lx X.labels.length dx) ∧ w'.cell? ⟨b1, o1 + q * 5 + 4, none⟩ = some (.bool X.isOpen)) (wq.alloc (.cells #[.int .i64 0, .string { data := #[] }, .slice none 0 0, .slice none 0 0, .bool false] 33)) := ⟨HN.out.cell 4 rfl 0 rfl, cell_below HN.out.below X0.out, cell_below HN.out.below X1.out, cell_below HN.out.below X2.out, cell_below HN.out.below X3.out, cell_below HN.out.below X4.out⟩
     refine LStep.made (some 8) (.pointer (some ⟨wq.heap.size, 0, none⟩)) _ (by kernel_rfl) (by kernel_rfl) hH2 ?_
     exact outof_G hG (Z1.out wq.heap.size _ HN) (by kernel_rfl) (by rw [hA.out]; try kernel_rfl)
   ⟩
   exact Z2.out  wq0 HC
  ·have e : k = 2 * n := by omega
   have hds' : ds.map NodeV.n = (twiceG g bit).ns := by rw [hds.out, e, ← HGN.out]; rfl
   have HDS := Tre.hid hds'
   have HHK := Tre.hid (tw_ok (bit := bit) CG.out (by rw [HGN.out]; omega))
   have HHL := Tre.hid (tw_least (bit := bit) CG.out (by rw [HGN.out]; omega))
   have HHW : Hid ((twiceG g bit).weight ≤ 2097152) := by show _ ≤ _; rw [tw_weight]; omega
   have HHN : Hid ((twiceG g bit).ns.length = ds.length) := by show _ = _; rw [← HDS.out, List.length_map]
   have HHR : Hid ((twiceG g bit).root = (r : Int)) := HGR.out
   have HNB : Hid (∀ W, Mem w W [nodesR (.slice aN ds.length cN) ds, argsR ds, cellsR b6 24 #[.slice aN ds.length cN, .int .i64 (r : Int)], cellsR w.heap.size 24 #[.slice (some ⟨b1, o1, none⟩) n ca, .int .i64 (r : Int)]] → NodesAt W aN (twiceG g bit).ns) := fun W hM => by
    have := nodesAt_of (hM.at_ 0 rfl) (labs_vals hLB.out hM.below (hM.at_ 1 rfl))
    rwa [HDS.out] at this
   have HKG : Hid (∀ W, Mem w W [nodesR (.slice aN ds.length cN) ds, argsR ds, cellsR b6 24 #[.slice aN ds.length cN, .int .i64 (r : Int)], cellsR w.heap.size 24 #[.slice (some ⟨b1, o1, none⟩) n ca, .int .i64 (r : Int)]] → Calls Tryz.prog 11 #[.agg #[.slice (some ⟨b1, o1, none⟩) n ca, .int .i64 (r : Int)]] W fun e w' => e = .returned (.string ⟨(keyK g.leastG.ns).toArray⟩) ∧ Below W.heap.size W w') := fun W hM => by
    have K := key_any (some ⟨b1, o1, none⟩) ca g W (HG.out.below hM.below) (by omega) (HX.out.below hM.below) (HT.out.below hM.below) CG.out
    rw [HGN.out, HGR.out] at K; exact K
   have HLG : Hid (∀ W, Mem w W [nodesR (.slice aN ds.length cN) ds, argsR ds, cellsR b6 24 #[.slice aN ds.length cN, .int .i64 (r : Int)], cellsR w.heap.size 24 #[.slice (some ⟨b1, o1, none⟩) n ca, .int .i64 (r : Int)]] → Calls Tryz.prog 13 #[.agg #[.slice (some ⟨b1, o1, none⟩) n ca, .int .i64 (r : Int)]] W fun e w' => ∃ v ds, e = .returned (.agg #[v, .int .i64 0]) ∧ ds.map NodeV.n = g.leastG.ns ∧ Mem W w' [nodesR v ds, kidsR ds]) := fun W hM => by
    have K := least_any (some ⟨b1, o1, none⟩) ca g W (HG.out.below hM.below) (by omega) (HX.out.below hM.below) (HT.out.below hM.below) CG.out
    rw [HGN.out, HGR.out] at K; exact K
   have HKH : Hid (∀ W, Mem w W [nodesR (.slice aN ds.length cN) ds, argsR ds, cellsR b6 24 #[.slice aN ds.length cN, .int .i64 (r : Int)], cellsR w.heap.size 24 #[.slice (some ⟨b1, o1, none⟩) n ca, .int .i64 (r : Int)]] → Calls Tryz.prog 11 #[.agg #[.slice aN ds.length cN, .int .i64 (r : Int)]] W fun e w' => e = .returned (.string ⟨(keyK g.leastG.ns).toArray⟩) ∧ Below W.heap.size W w') := fun W hM => by
    have K := key_any aN cN (twiceG g bit) W (HNB.out W hM) HHW.out (HX.out.below hM.below) (HT.out.below hM.below) HHK.out
    rw [HHN.out, HHR.out, ← HHL.out] at K; exact K
   have HLH : Hid (∀ W, Mem w W [nodesR (.slice aN ds.length cN) ds, argsR ds, cellsR b6 24 #[.slice aN ds.length cN, .int .i64 (r : Int)], cellsR w.heap.size 24 #[.slice (some ⟨b1, o1, none⟩) n ca, .int .i64 (r : Int)]] → Calls Tryz.prog 13 #[.agg #[.slice aN ds.length cN, .int .i64 (r : Int)]] W fun e w' => ∃ v ds, e = .returned (.agg #[v, .int .i64 0]) ∧ ds.map NodeV.n = g.leastG.ns ∧ Mem W w' [nodesR v ds, kidsR ds]) := fun W hM => by
    have K := least_any aN cN (twiceG g bit) W (HNB.out W hM) HHW.out (HX.out.below hM.below) (HT.out.below hM.below) HHK.out
    rw [HHN.out, HHR.out, ← HHL.out] at K; exact K
   generalize keyK g.leastG.ns = sg at *
   clear hds' e hds hLB
   go_upto_region 23 with fail
   refine wp_region_keep (S := (fun w' => w'.cell? ⟨w.heap.size, 0, none⟩ = some (.slice (some ⟨b1, o1, none⟩) n ca) ∧ w'.cell? ⟨w.heap.size, 1, none⟩ = some (.int .i64 (r : Int)) ∧ w'.cell? ⟨b6, 0, none⟩ = some (.slice aN ds.length cN) ∧ w'.cell? ⟨b6, 1, none⟩ = some (.int .i64 (r : Int)))) [] (by kernel_rfl) ?_ (fun hH0 => ?_)
   ·exact ⟨HQ.out.drew.cell 3 rfl 0 rfl, HQ.out.drew.cell 3 rfl 1 rfl, HQ.out.drew.cell 2 rfl 0 rfl, HQ.out.drew.cell 2 rfl 1 rfl⟩
   have H0 := Tre.hid HQ.out.drew
   generalize hq : World.drew _ = wq0 at H0 hH0 ⊢
   clear hq
   refine lTake (i := 0) (some 93) (v := ?_) (by rfl) (by kernel_rfl) (by kernel_rfl) (by kernel_rfl) (by kernel_rfl) (by kernel_rfl) (fun _ _ _ h => h) (by rfl) ?_ hH0 ?_
   rotate_left
   ·intro w hSw; (try dsimp only at hSw); simp only [Tre.qa, Tre.qc, Tre.qd, Tre.qe]; (first | (go_simp; done) | (go_simp; with_reducible rfl))
   try simp only [Act.put, Tre.qf, Tre.qg, Tre.qh]
   refine lTake (i := 2) (some 95) (v := ?_) (by rfl) (by kernel_rfl) (by kernel_rfl) (by kernel_rfl) (by kernel_rfl) (by kernel_rfl) (fun _ _ _ h => h) (by rfl) ?_ hH0 ?_
   rotate_left
   ·intro w hSw; (try dsimp only at hSw); simp only [Tre.qa, Tre.qb, Tre.qc, Tre.qd, Tre.qe]; (first | (go_simp; done) | (go_simp; with_reducible rfl))
   try simp only [Act.put, Tre.qf, Tre.qg, Tre.qh]
   refine lOne 1 (by kernel_rfl) (LStep.op (fun K hK => ?_))
   go_simp
   refine (HKH.out _ H0.out).mono ?_
   rintro e wq1 ⟨rfl, bq⟩
   have H1 := Tre.hid (H0.out.quiet bq)
   clear bq
   (try dsimp only)
   refine hK.out _ _ ?_ (fun hH1 => ?_)
   ·exact ⟨H1.out.cell 3 rfl 0 rfl, H1.out.cell 3 rfl 1 rfl, H1.out.cell 2 rfl 0 rfl, H1.out.cell 2 rfl 1 rfl⟩
   clear hK K hH0
   try simp only [Act.put, Tre.qf, Tre.qg, Tre.qh]
   refine lOne 3 (by kernel_rfl) (LStep.op (fun K hK => ?_))
   go_simp
   refine (HKG.out _ H1.out).mono ?_
   rintro e wq2 ⟨rfl, bq⟩
   have H2 := Tre.hid (H1.out.quiet bq)
   clear bq
   (try dsimp only)
   refine hK.out _ _ ?_ (fun hH2 => ?_)
   ·exact ⟨H2.out.cell 3 rfl 0 rfl, H2.out.cell 3 rfl 1 rfl, H2.out.cell 2 rfl 0 rfl, H2.out.cell 2 rfl 1 rfl⟩
   clear hK K hH1
   try simp only [Act.put, Tre.qf, Tre.qg, Tre.qh]
   refine lPure (i := 4) (some 97) (v := ?_) (by rfl) (by kernel_rfl) (by kernel_rfl) (by kernel_rfl) (by kernel_rfl) (fun _ _ _ h => h) (by rfl) ?_ (keep_of hH2) ?_
   rotate_left
   ·intro w; simp only [Tre.qa, Tre.qb, Tre.qc, Tre.qd, Tre.qe]; (first | (go_simp; done) | (go_simp; with_reducible rfl))
   try simp only [Act.put, Tre.qf, Tre.qg, Tre.qh]
   refine lPure (i := 5) (some 98) (v := ?_) (by rfl) (by kernel_rfl) (by kernel_rfl) (by kernel_rfl) (by kernel_rfl) (fun _ _ _ h => h) (by rfl) ?_ (keep_of hH2) ?_
   rotate_left
   ·intro w; simp only [Tre.qa, Tre.qb, Tre.qc, Tre.qd, Tre.qe]; (first | (go_simp; done) | (go_simp; with_reducible rfl))
   try simp only [Act.put, Tre.qf, Tre.qg, Tre.qh]
   refine lTake (i := 6) (some 99) (v := ?_) (by rfl) (by kernel_rfl) (by kernel_rfl) (by kernel_rfl) (by kernel_rfl) (by kernel_rfl) (fun _ _ _ h => h) (by rfl) ?_ hH2 ?_
   rotate_left
   ·intro w hSw; (try dsimp only at hSw); simp only [Tre.qa, Tre.qb, Tre.qc, Tre.qd, Tre.qe]; (first | (go_simp; done) | (go_simp; with_reducible rfl))
   try simp only [Act.put, Tre.qf, Tre.qg, Tre.qh]
   refine lTake (i := 8) (some 101) (v := ?_) (by rfl) (by kernel_rfl) (by kernel_rfl) (by kernel_rfl) (by kernel_rfl) (by kernel_rfl) (fun _ _ _ h => h) (by rfl) ?_ hH2 ?_
   rotate_left
   ·intro w hSw; (try dsimp only at hSw); simp only [Tre.qa, Tre.qb, Tre.qc, Tre.qd, Tre.qe]; (first | (go_simp; done) | (go_simp; with_reducible rfl))
   try simp only [Act.put, Tre.qf, Tre.qg, Tre.qh]
   refine lOne 7 (by kernel_rfl) (LStep.op (fun K hK => ?_))
   go_simp
   refine (HLH.out _ (H2.out)).mono ?_
   rintro e wq3 ⟨vH, dH, rfl, hd, mq⟩
   have HDH := Tre.hid hd
   obtain ⟨aH, cH, rfl, _⟩ := mq.val 0 rfl
   have H3 := Tre.hid (H2.out.call mq)
   clear mq hd
   (try dsimp only)
   refine hK.out _ _ ?_ (fun hH3 => ?_)
   ·exact ⟨H3.out.cell 5 rfl 0 rfl, H3.out.cell 5 rfl 1 rfl, H3.out.cell 4 rfl 0 rfl, H3.out.cell 4 rfl 1 rfl⟩
   clear hK K hH2
   try simp only [Act.put, Tre.qf, Tre.qg, Tre.qh]
   refine lOne 9 (by kernel_rfl) (LStep.op (fun K hK => ?_))
   go_simp
   refine (HLG.out _ (H3.out.drop1.drop1)).mono ?_
   rintro e wq4 ⟨vG, dG, rfl, hd, mq⟩
   have HDG := Tre.hid hd
   obtain ⟨aG, cG, rfl, _⟩ := mq.val 0 rfl
   have H4 := Tre.hid (H3.out.call mq)
   clear mq hd
   (try dsimp only)
   refine hK.out _ _ ?_ (fun hH4 => ?_)
   ·exact ⟨H4.out.cell 7 rfl 0 rfl, H4.out.cell 7 rfl 1 rfl, H4.out.cell 6 rfl 0 rfl, H4.out.cell 6 rfl 1 rfl⟩
   clear hK K hH3
   try simp only [Act.put, Tre.qf, Tre.qg, Tre.qh]
   refine lOne 10 (by kernel_rfl) (LStep.op (fun K hK => ?_))
   go_simp
   have NG := nodes_read (H4.out.at_ 0 rfl) (H4.out.at_ 1 rfl)
   have NH := nodes_read (H4.out.at_ 2 rfl) (H4.out.at_ 3 rfl)
   rw [HDG.out] at NG
   rw [HDH.out] at NH
   have lG : g.leastG.ns.length = dG.length := by rw [← HDG.out, List.length_map]
   have lH : g.leastG.ns.length = dH.length := by rw [← HDH.out, List.length_map]
   have CE := refEqual aH aG cH cG g.leastG g.leastG wq4 NH NG (by have := LW.out; omega) (by have := LW.out; omega)
   have CE2 : Calls Tryz.prog 12 #[.agg #[.slice aH dH.length cH, .int .i64 0], .agg #[.slice aG dG.length cG, .int .i64 0]] wq4 fun e w' => e = .returned (.bool true) ∧ Below wq4.heap.size wq4 w' := by rw [← lG, ← lH]; rw [decide_eq_true rfl] at CE; exact CE
   refine CE2.mono ?_
   rintro e wq5 ⟨rfl, bq⟩
   have H5 := Tre.hid (((H4.out.quiet bq).drop1.drop1).drop1.drop1)
   clear bq CE CE2 NG NH lG lH
   (try dsimp only)
   refine hK.out _ _ ?_ (fun hH5 => ?_)
   ·exact ⟨H5.out.cell 3 rfl 0 rfl, H5.out.cell 3 rfl 1 rfl, H5.out.cell 2 rfl 0 rfl, H5.out.cell 2 rfl 1 rfl⟩
   clear hK K hH4
   try simp only [Act.put, Tre.qf, Tre.qg, Tre.qh]
   refine lPure (i := 11) (some 104) (v := ?_) (by rfl) (by kernel_rfl) (by kernel_rfl) (by kernel_rfl) (by kernel_rfl) (fun _ _ _ h => h) (by rfl) ?_ (keep_of hH5) ?_
   rotate_left
   ·intro w; simp only [Tre.qa, Tre.qb, Tre.qc, Tre.qd, Tre.qe]; (first | (go_simp; done) | (go_simp; with_reducible rfl))
   try simp only [Act.put, Tre.qf, Tre.qg, Tre.qh]
   refine lPure (i := 12) (some 4) (v := ?_) (by rfl) (by kernel_rfl) (by kernel_rfl) (by kernel_rfl) (by kernel_rfl) (fun _ _ _ h => h) (by rfl) ?_ (keep_of hH5) ?_
   rotate_left
   ·intro w; simp only [Tre.qa, Tre.qb, Tre.qc, Tre.qd, Tre.qe]; (first | (go_simp; done) | (go_simp; with_reducible rfl))
   try simp only [Act.put, Tre.qf, Tre.qg, Tre.qh]
   refine lDone (by kernel_rfl) ?_
   clear hH5
   go_wp2_with fail
   go_ret
   exact ⟨rfl, H5.out.below⟩
end Go.Proofs.YtaleodkbghogfaaGreatDoor.gr
namespace Go.Proofs.YtaleodkbghogfaaGreatDoor.lex
open Go.ChangeShapes Go.WideShapes Go.RowKit Go.Tre
theorem envMax {w : World} (h : w.ShapedOpen Tryz.prog) : MaxAt w :=
 Go.Proofs.cell_of_shapedOpen_int (zero := #[.int .i64 0]) (t := 3) h (of_decide_eq_true (by kernel_rfl)) (by kernel_rfl) rfl (by kernel_rfl) (by kernel_rfl) Tryz.underlying3
def spaceTab : List Int := (List.range 256).map fun c => if spB (UInt8.ofNat c) = true then 1 else 0
theorem spaceData : (Rows.laid_strings_asciiSpace : DataW Unit) = Lib.tabData .u8 spaceTab := by kernel_rfl
theorem envSpace {W : World} {l : List (String × DataW Unit)} (h : laidMetH Tryz.prog l W) (e : l.filter (fun x => x.1 == "strings.asciiSpace") = [("strings.asciiSpace", Rows.laid_strings_asciiSpace)]) : SpaceAt W := by
 have h1 := laidMetH.filter (fun x => x.1 == "strings.asciiSpace") h
 rw [e, spaceData] at h1
 have h2 : Lib.TabIs Tryz.prog W "strings.asciiSpace" .u8 spaceTab :=
  Lib.tabIs_of_head (rest := []) (g := 2) (t := 215) (e := 5) (n := 256) (by kernel_rfl) (by kernel_rfl) Tryz.underlying215 Tryz.underlying5 (by kernel_rfl) (by kernel_rfl) h1
 intro c
 have hc := c.toNat_lt
 have h3 := h2.cell (g := 2) (by kernel_rfl) c.toNat (by unfold spaceTab; simp; omega)
 rw [h3]
 unfold spaceTab
 rw [List.getD_eq_getElem?_getD, List.getElem?_map, List.getElem?_range (by omega)]
 simp
theorem envRange {W : World} {l : List (String × DataW Unit)} (h : laidMetH Tryz.prog l W) (e : l.filter (fun x => x.1 == "strconv.ErrRange") = [("strconv.ErrRange", Rows.laid_strconv_ErrRange)]) : RangeAt W := by
 have h1 := laidMetH.filter (fun x => x.1 == "strconv.ErrRange") h
 rw [e] at h1
 have h2 : laidMet Tryz.prog [("strconv.ErrRange", Rows.laid_strconv_ErrRange)] W := h1
 obtain ⟨ps, ⟨g', t', cs, fuel, p, q, hg', ht', hvar, hd, _, _⟩, _⟩ := h2
 obtain rfl := Option.some.inj ((show Tryz.prog.globalNamed "strconv.ErrRange" = some 8 by kernel_rfl).symm.trans hg')
 obtain rfl := Option.some.inj ((show (Tryz.prog.globals[8]?).map (·.type) = some 54 by kernel_rfl).symm.trans ht')
 obtain ⟨f1, u, v, hcs, _, _⟩ := iface_of_trod Tryz.underlying54 hd
 refine ⟨u, v, ?_⟩
 have h3 := World.var?_cell hg' hvar 0
 have h4 : cs[0]? = some (.iface u v) := by rw [← Array.getElem?_toList, hcs]; rfl
 rw [h3, h4]
theorem errRows : ((List.range Tryz.prog.types.size).filter fun t => Tryz.prog.rowNamed t [101, 114, 114, 111, 114]) = [54] := by kernel_rfl
theorem envErr {W : World} {l : List (String × DataW Unit)} (h : laidMetH Tryz.prog l W) (e : l.filter (fun x => x.1 == "errors.errorType") = [("errors.errorType", Rows.laid_errors_errorType)]) : ErrT W := by
 have h1 := laidMetH.filter (fun x => x.1 == "errors.errorType") h
 rw [e] at h1
 have h' : laidMet Tryz.prog [] W ∧ handlesMet Tryz.prog [("errors.errorType", Rows.laid_errors_errorType)] W := h1
 obtain ⟨name, u, ty, e1, e2, e3, e4, e5⟩ := h'.2 _ (List.mem_singleton.2 rfl)
 have en : name = [101, 114, 114, 111, 114] := (Option.some.inj e1).symm
 subst en
 obtain rfl := Option.some.inj ((show (Tryz.prog.cutTypes.find? (·.1 == "internal/reflectlite.rtype")).map (·.2) = some 179 by kernel_rfl).symm.trans e2)
 have hm : ty ∈ (List.range Tryz.prog.types.size).filter fun t => Tryz.prog.rowNamed t [101, 114, 114, 111, 114] := List.mem_filter.2 ⟨List.mem_range.2 e3, e4⟩
 rw [errRows] at hm
 obtain rfl := List.mem_singleton.1 hm
 have hh : typeHandle Tryz.prog 54 = .pointer (some (rtA 54)) := by kernel_rfl
 rw [hh] at e5
 show W.cell? ⟨0, 0, none⟩ = _
 simpa using World.var?_cell (show Tryz.prog.globalNamed "errors.errorType" = some 0 by kernel_rfl) e5 0
theorem env_of {W : World} {l : List (String × DataW Unit)} (hsh : W.ShapedOpen Tryz.prog) (h : laidMetH Tryz.prog l W) (e1 : l.filter (fun x => x.1 == "strings.asciiSpace") = [("strings.asciiSpace", Rows.laid_strings_asciiSpace)])
  (e2 : l.filter (fun x => x.1 == "strconv.ErrRange") = [("strconv.ErrRange", Rows.laid_strconv_ErrRange)]) (e3 : l.filter (fun x => x.1 == "errors.errorType") = [("errors.errorType", Rows.laid_errors_errorType)]) : LexEnv W :=
 ⟨envMax hsh, envSpace h e1, envRange h e2, envErr h e3⟩
end Go.Proofs.YtaleodkbghogfaaGreatDoor.lex
