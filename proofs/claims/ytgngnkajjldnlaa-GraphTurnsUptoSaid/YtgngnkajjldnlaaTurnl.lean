/- GraphTurns: the walk. -/
import Derived.Test.YtgngnkajjldnlaaAlive
import Derived.Test.YtgngnkajjldnlaaTurnp
import Derived.Test.YtgngnkajjldnlaaTurnm
import Derived.Test.YtgngnkajjldnlaaRcopy
import Derived.Deep.DeepCutAuto
namespace Go.Proofs.Ytgngnkajjldnlaa.gr
open Go.RowKit Go.Shelf Go.Maps Go.Tre lex

set_option maxRecDepth 100000 in
set_option maxHeartbeats 8000000 in
theorem turnLaw (a : Option Addr) (ca : Nat) (g : Tre.Graph) (by_ tw : Int) (w : World) (hg : NodesAt w a g.ns) (wg : g.weight ≤ 1048576) (hb0 : 0 ≤ by_ ∧ by_ ≤ 255) (ht0 : 0 ≤ tw ∧ tw ≤ 255) (hm : MaxAt w) :
    Calls Try.prog 4 #[.agg #[.slice a g.ns.length ca, .int .i64 g.root], .int .u8 by_, .int .u8 tw] w fun e w' => e = .returned (.bool true) ∧ Below w.heap.size w w' := by
  have M := (Mem.nil w).allocR #[.slice a g.ns.length ca, .int .i64 g.root] 24
  have HM := Tre.hid hm
  have HG := Tre.hid hg
  have HM0 := Tre.hid M
  obtain ⟨b, rfl⟩ : ∃ b : Nat, by_ = (b : Int) := ⟨by_.toNat, by omega⟩
  obtain ⟨t, rfl⟩ : ∃ t : Nat, tw = (t : Int) := ⟨tw.toNat, by omega⟩
  obtain ⟨ii, I1, I2, I3, I4⟩ := info_parts infoN
  have J1 := Tre.hid I1
  have J2 := Tre.hid I2
  have J3 := Tre.hid I3
  have J4 := Tre.hid I4
  obtain ⟨ji, K1, K2, K3, K4⟩ := info_parts infoI
  have L1 := Tre.hid K1
  have L2 := Tre.hid K2
  have L3 := Tre.hid K3
  have L4 := Tre.hid K4
  clear hm hg M I1 I2 I3 I4 K1 K2 K3 K4
  go_enter Try.func4, Try.ntmps4
  go_wp2_with fail
  refine (alive_any _ (HM.out.below HM0.out.below)).mono ?_
  rintro e w1 ⟨rfl, b1⟩
  have M1 := HM0.out.quiet b1
  obtain ⟨g0, g1⟩ := M1.two 0 rfl
  have HM1 := Tre.hid M1
  clear M1 b1
  go_wp2_with fail
  refine (great.great a ca g _ (by omega) (HG.out.below HM1.out.below)).mono ?_
  rintro e w2 ⟨rfl, b2⟩
  clear g0 g1
  have M2 := HM1.out.quiet b2
  obtain ⟨g0, g1⟩ := M2.two 0 rfl
  have HM2 := Tre.hid M2
  clear M2 b2
  by_cases t2 : (300 : Int) < g.great
  · go_wp2_with fail
    go_ret
    exact ⟨rfl, HM2.out.below⟩
  go_wp2_with fail
  refine (check_any a ca g _ (HG.out.below HM2.out.below) (by omega) (HM.out.below HM2.out.below)).mono ?_
  rintro e w3 ⟨rfl, b3⟩
  clear g0 g1
  have M3 := HM2.out.quiet b3
  obtain ⟨g0, g1⟩ := M3.two 0 rfl
  have HM3 := Tre.hid M3
  clear M3 b3
  by_cases t3 : g.checkC ≠ 0
  · have t := not_ok t3
    go_wp2_with fail
    go_ret
    exact ⟨rfl, HM3.out.below⟩
  have cg : g.checkC = 0 := by omega
  have CG := Tre.hid cg
  have OG := Tre.hid (Graph.ok_of cg)
  have u3 : (g.checkC != 0) = false := by rw [cg]; rfl
  have hgl : g.ns.length ≤ 300 := by have := g.great_len; omega
  have hg1 : 0 < g.ns.length := by have := OG.out.root1; omega
  obtain ⟨r, hr⟩ : ∃ r : Nat, g.root = (r : Int) := ⟨g.root.toNat, by have := OG.out.root0; omega⟩
  have hrl : r < g.ns.length := by have := OG.out.root1; omega
  have HR := Tre.hid hr
  rw [hr] at g1
  have HM3' := HM3.out
  rw [hr] at HM3'
  have HM3 := Tre.hid HM3'
  clear cg t3 hr HM3'
  go_upto_region 6 with fail
  have e0 : IntKind.i64.wrap (b : Int) = (b : Int) := IntWalk.i64_in _ (by omega)
  have e1 : IntKind.i64.wrap ((r : Int) + (b : Int)) = (r : Int) + (b : Int) := IntWalk.i64_in ((r : Int) + (b : Int)) (by omega)
  have e2 : ((r : Int) + (b : Int)).tmod (g.ns.length : Int) = ((turnAt g.ns.length b r : Nat) : Int) := by unfold turnAt; rw [Int.tmod_eq_emod_of_nonneg (by omega), Int.natCast_emod, Int.natCast_add]
  have e3 : ¬ g.ns = [] := fun e => by rw [e] at hg1; simp at hg1
  go_cut [8] (fun s8 wx => ∃ (B bN : Nat), s8 = .pointer (some ⟨B, 0, none⟩) ∧ Hid (Mem w wx [nodesR (.slice (some ⟨bN, 0, none⟩) g.ns.length g.ns.length) (List.replicate g.ns.length zeroV), manyR [argsR zeroV], cellsR B 24 #[.slice (some ⟨bN, 0, none⟩) g.ns.length g.ns.length, .int .i64 ((turnAt g.ns.length b r : Nat) : Int)], cellsR w.heap.size 24 #[.slice a g.ns.length ca, .int .i64 (r : Int)]]))
  case first =>
    refine wp_region_keep (S := (fun w' => w'.cell? ⟨w.heap.size, 1, none⟩ = some (.int .i64 (r : Int)))) [11] (by kernel_rfl) ?_ (fun hH0 => ?_)
    · exact g1
    refine lPure (i := 0) (some 30) (v := ?_) (by rfl) (by kernel_rfl) (by kernel_rfl) (by kernel_rfl) (by kernel_rfl) (fun _ _ _ h => h) (by rfl) ?_ (keep_of hH0) ?_
    rotate_left
    · intro w; simp only [List.getElem?_toArray, List.getElem?_cons_zero, Option.map_some, Option.some.injEq]; (first | (go_simp; done) | (go_simp; with_reducible rfl))
    try simp only [Act.put, List.setIfInBounds_toArray, List.set_cons_zero, List.set_cons_succ]
    refine lPure (i := 2) (some 32) (v := ?_) (by rfl) (by kernel_rfl) (by kernel_rfl) (by kernel_rfl) (by kernel_rfl) (fun _ _ _ h => h) (by rfl) ?_ (keep_of hH0) ?_
    rotate_left
    · intro w; simp only [List.getElem?_toArray, List.getElem?_cons_succ, List.getElem?_cons_zero, Option.map_some, Option.some.injEq]; (first | (go_simp; done) | (go_simp; with_reducible rfl))
    try simp only [Act.put, List.setIfInBounds_toArray, List.set_cons_zero, List.set_cons_succ]
    refine lPure (i := 3) (some 33) (v := ?_) (by rfl) (by kernel_rfl) (by kernel_rfl) (by kernel_rfl) (by kernel_rfl) (fun _ _ _ h => h) (by rfl) ?_ (keep_of hH0) ?_
    rotate_left
    · intro w; simp only [List.getElem?_toArray, List.getElem?_cons_succ, List.getElem?_cons_zero, Option.map_some, Option.some.injEq]; (first | (go_simp; done) | (go_simp; with_reducible rfl))
    try simp only [Act.put, List.setIfInBounds_toArray, List.set_cons_zero, List.set_cons_succ]
    refine lPure (i := 5) (some 35) (v := ?_) (by rfl) (by kernel_rfl) (by kernel_rfl) (by kernel_rfl) (by kernel_rfl) (fun _ _ _ h => h) (by rfl) ?_ (keep_of hH0) ?_
    rotate_left
    · intro w; simp only [List.getElem?_toArray, List.getElem?_cons_succ, List.getElem?_cons_zero, Option.map_some, Option.some.injEq]; (first | (go_simp; done) | (go_simp; with_reducible rfl))
    try simp only [Act.put, List.setIfInBounds_toArray, List.set_cons_zero, List.set_cons_succ]
    refine lPure (i := 7) (some 37) (v := ?_) (by rfl) (by kernel_rfl) (by kernel_rfl) (by kernel_rfl) (by kernel_rfl) (fun _ _ _ h => h) (by rfl) ?_ (keep_of hH0) ?_
    rotate_left
    · intro w; simp only [List.getElem?_toArray, List.getElem?_cons_succ, List.getElem?_cons_zero, Option.map_some, Option.some.injEq]; (first | (go_simp; done) | (go_simp; with_reducible rfl))
    try simp only [Act.put, List.setIfInBounds_toArray, List.set_cons_zero, List.set_cons_succ]
    refine lTake (i := 1) (some 31) (v := ?_) (by rfl) (by kernel_rfl) (by kernel_rfl) (by kernel_rfl) (by kernel_rfl) (by kernel_rfl) (fun _ _ _ h => h) (by rfl) ?_ hH0 ?_
    rotate_left
    · intro w hSw; (try dsimp only at hSw); simp only [List.getElem?_toArray, List.getElem?_cons_succ, List.getElem?_cons_zero, Option.map_some, Option.some.injEq]; (first | (go_simp; done) | (go_simp; with_reducible rfl))
    try simp only [Act.put, List.setIfInBounds_toArray, List.set_cons_zero, List.set_cons_succ]
    refine lPure (i := 4) (some 34) (v := ?_) (by rfl) (by kernel_rfl) (by kernel_rfl) (by kernel_rfl) (by kernel_rfl) (fun _ _ _ h => h) (by rfl) ?_ (keep_of hH0) ?_
    rotate_left
    · intro w; simp only [List.getElem?_toArray, List.getElem?_cons_succ, List.getElem?_cons_zero, Option.map_some, Option.some.injEq]; (first | (go_simp; done) | (go_simp; with_reducible rfl))
    try simp only [Act.put, List.setIfInBounds_toArray, List.set_cons_zero, List.set_cons_succ]
    refine lPure (i := 6) (some 36) (v := ?_) (by rfl) (by kernel_rfl) (by kernel_rfl) (by kernel_rfl) (by kernel_rfl) (fun _ _ _ h => h) (by rfl) ?_ (keep_of hH0) ?_
    rotate_left
    · intro w; simp only [List.getElem?_toArray, List.getElem?_cons_succ, List.getElem?_cons_zero, Option.map_some, Option.some.injEq]; (first | (go_simp; done) | (go_simp; with_reducible rfl))
    try simp only [Act.put, List.setIfInBounds_toArray, List.set_cons_zero, List.set_cons_succ]
    refine lTwo 8 10 (by kernel_rfl) (LStep.op (fun K hK => ?_)) (LStep.op (fun K hK => ?_))
    · -- 38
      obtain ⟨wm, hmk, hmo, hmg⟩ := run_make_full (P := Try.prog) (w3.drew) 0 22 33 ii _ 5 Try.underlying22 J1.out J2.out J3.out .i64 .i64 g.ns.length (by rw [J4.out]; omega) (by unfold maxLen; omega) (Nat.zero_le _)
      rw [madeNodes] at hmo
      have MW := HM3.out.drew.startNodes hmg hmo
      have HW := Tre.hid MW
      go_simp
      clear hmk hmo hmg MW
      refine hK.out _ _ ?_ (fun hH1 => ?_)
      · exact HW.out.cell 2 rfl 1 rfl
      clear hK K hH0
      try simp only [Act.put, List.setIfInBounds_toArray, List.set_cons_zero, List.set_cons_succ]
      refine lPure (i := 9) (some 39) (v := ?_) (by rfl) (by kernel_rfl) (by kernel_rfl) (by kernel_rfl) (by kernel_rfl) (fun _ _ _ h => h) (by rfl) ?_ (keep_of hH1) ?_
      rotate_left
      · intro w; simp only [List.getElem?_toArray, List.getElem?_cons_succ, List.getElem?_cons_zero, Option.map_some, Option.some.injEq]; (first | (go_simp; done) | (go_simp; with_reducible rfl))
      try simp only [Act.put, List.setIfInBounds_toArray, List.set_cons_zero, List.set_cons_succ]
      refine lOne 10 (by kernel_rfl) (LStep.op (fun K hK => ?_))
      go_simp
      have HZ := Tre.hid (HW.out.allocR #[.slice none 0 0, .int .i64 0] 24)
      refine hK.out _ _ ?_ (fun hH2 => ?_)
      · exact HZ.out.cell 3 rfl 1 rfl
      clear hK K hH1
      try simp only [Act.put, List.setIfInBounds_toArray, List.set_cons_zero, List.set_cons_succ]
      refine lOne 11 (by kernel_rfl) (LFall.op (by kernel_rfl) (fun K hK => ?_))
      go_simp
      refine hK.out _ _ ?_
      clear hK K hH2
      try simp only [Act.put, List.setIfInBounds_toArray, List.set_cons_zero, List.set_cons_succ]
      refine lDone (by kernel_rfl) ?_
      go_wp2_with fail
      go_meet
      exact ⟨_, _, rfl, (HW.out.allocR #[.slice (some ⟨w3.heap.size, 0, none⟩) g.ns.length g.ns.length, .int .i64 ((turnAt g.ns.length b r : Nat) : Int)] 24).rot3⟩
    · -- 8
      go_simp
      have HZ : Hid (Mem w (w3.alloc (.cells #[.slice none 0 0, .int .i64 0] 24)).drew _) := (HM3.out.allocR #[.slice none 0 0, .int .i64 0] 24).drew
      refine hK.out _ _ ?_ (fun hH1 => ?_)
      · exact HZ.out.cell 1 rfl 1 rfl
      clear hK K hH0
      try simp only [Act.put, List.setIfInBounds_toArray, List.set_cons_zero, List.set_cons_succ]
      refine lOne 8 (by kernel_rfl) (LStep.op (fun K hK => ?_))
      obtain ⟨wm, hmk, hmo, hmg⟩ := run_make_full (P := Try.prog) ((w3.alloc (.cells #[.slice none 0 0, .int .i64 0] 24)).drew) 0 22 33 ii _ 5 Try.underlying22 J1.out J2.out J3.out .i64 .i64 g.ns.length (by rw [J4.out]; omega) (by unfold maxLen; omega) (Nat.zero_le _)
      rw [madeNodes] at hmo
      have MW := HZ.out.startNodes hmg hmo
      rw [show ((w3.alloc (.cells #[.slice none 0 0, .int .i64 0] 24)).drew).heap.size = w3.heap.size + 1 from heapSize_alloc w3 _] at MW
      have HW := Tre.hid MW
      have f0 := MW.free 2 rfl 0
      have f1 := MW.free 2 rfl 1
      obtain ⟨z0, z1⟩ := MW.two 2 rfl
      go_simp
      clear hmk hmo hmg MW
      refine hK.out _ _ ?_ (fun hH2 => ?_)
      · exact HW.out.cell 3 rfl 1 rfl
      clear hK K hH1
      try simp only [Act.put, List.setIfInBounds_toArray, List.set_cons_zero, List.set_cons_succ]
      refine lPure (i := 9) (some 39) (v := ?_) (by rfl) (by kernel_rfl) (by kernel_rfl) (by kernel_rfl) (by kernel_rfl) (fun _ _ _ h => h) (by rfl) ?_ (keep_of hH2) ?_
      rotate_left
      · intro w; simp only [List.getElem?_toArray, List.getElem?_cons_succ, List.getElem?_cons_zero, Option.map_some, Option.some.injEq]; (first | (go_simp; done) | (go_simp; with_reducible rfl))
      try simp only [Act.put, List.setIfInBounds_toArray, List.set_cons_zero, List.set_cons_succ]
      refine lOne 11 (by kernel_rfl) (LFall.op (by kernel_rfl) (fun K hK => ?_))
      go_simp
      refine hK.out _ _ ?_
      clear hK K hH2
      try simp only [Act.put, List.setIfInBounds_toArray, List.set_cons_zero, List.set_cons_succ]
      refine lDone (by kernel_rfl) ?_
      go_wp2_with fail
      go_meet
      exact ⟨w3.heap.size, w3.heap.size + 1, rfl, (HW.out.setCell 2 rfl 0 _).setCell 2 rfl 1 _⟩
  case rest =>
    obtain ⟨B, bN, rfl, hM⟩ := hcut
    obtain ⟨g0, g1⟩ := hM.out.two 3 rfl
    clear e1 e2
    go_wp2_with fail
    go_loopw [43] (fun v43 wr => ∃ (k : Nat) (ds : List NodeV) (l : List Res), k ≤ g.ns.length ∧ v43 = .int .i64 k ∧ ds.length = g.ns.length ∧ Hid (TS g b k ds) ∧ Hid (DS w l ds) ∧
        Hid (Mem w wr [nodesR (.slice (some ⟨bN, 0, none⟩) g.ns.length g.ns.length) ds, manyR l, cellsR B 24 #[.slice (some ⟨bN, 0, none⟩) g.ns.length g.ns.length, .int .i64 ((turnAt g.ns.length b r : Nat) : Int)], cellsR w.heap.size 24 #[.slice a g.ns.length ca, .int .i64 (r : Int)]]))
      (fun v43 _ => g.ns.length - (intOf v43).toNat)
    case atStart => exact ⟨0, List.replicate g.ns.length zeroV, [argsR zeroV], Nat.zero_le _, rfl, List.length_replicate, TS.start g b hg1, DS.zero w _, hM.out⟩
    case round =>
      obtain ⟨k, ds, l, hk, rfl, hdl, hT, hD, hI⟩ := hrel
      have HDL := Tre.hid hdl
      clear hdl
      by_cases hlt : k < g.ns.length
      · have HX : Hid (g.ns[k] = g.nd k) := (Graph.nd_eq hlt).symm
        obtain ⟨b1, o1, rfl, nx⟩ := HG.out.at_ k (g.nd k) (by rw [Graph.nd_eq hlt]; exact List.getElem?_eq_getElem hlt)
        have hXg : (g.nd k).great ≤ g.great := by rw [Graph.nd_eq hlt]; exact great_mem (List.getElem_mem hlt)
        have hXk : ∀ (i : Nat) (h : i < (g.nd k).args.length), ∃ y : Nat, (g.nd k).args[i] = (y : Int) ∧ y < g.ns.length := fun i h => by
          obtain ⟨y, h1, _, h3⟩ := OG.out.arg hlt h
          rw [List.getElem?_eq_getElem h] at h1
          exact ⟨y, Option.some.inj h1, h3⟩
        have HXK := Tre.hid hXk
        generalize hX : g.nd k = X at *
        have HXX := Tre.hid hX
        have hal : X.args.length + X.labels.length ≤ 300 := by unfold Tre.Node.great at hXg; omega
        obtain ⟨ax, cx, lx, dx, x0, x1, x2, x3, x4, xA, xL, _, xlc⟩ := nx
        have XA := Tre.hid xA
        have XL := Tre.hid xL
        have x0 := cell_below hI.out.below x0
        have x1 := cell_below hI.out.below x1
        have x2 := cell_below hI.out.below x2
        have x3 := cell_below hI.out.below x3
        have x4 := cell_below hI.out.below x4
        have MA := (hI.out.allocR #[.int .i64 X.kind, .string X.name, .slice ax X.args.length cx, .slice lx X.labels.length dx, .bool X.isOpen] 33).allocR #[.int .i64 X.kind, .string X.name, .slice none 0 0, .slice lx X.labels.length dx, .bool X.isOpen] 33
        rw [heapSize_alloc] at MA
        have HMA := Tre.hid (MA.addNil 3 1)
        clear xA xL hX hXk hI MA
        go_wp2_with fail
        obtain ⟨wo, rfl⟩ : ∃ wo : World, wo = wr := ⟨_, rfl⟩
        go_loopw [60] (fun v60 wi => ∃ (j : Nat) (vA : Value), j ≤ X.args.length ∧ v60 = .int .i64 j ∧
            Hid (Mem w wi [rowR 3 1 vA j ((X.args.take j).map fun z => Value.int .i64 (turnArg g.ns.length b z)), cellsR (wo.heap.size + 1) 33 #[.int .i64 X.kind, .string X.name, vA, .slice lx X.labels.length dx, .bool X.isOpen], cellsR wo.heap.size 33 #[.int .i64 X.kind, .string X.name, .slice ax X.args.length cx, .slice lx X.labels.length dx, .bool X.isOpen], nodesR (.slice (some ⟨bN, 0, none⟩) g.ns.length g.ns.length) ds, manyR l, cellsR B 24 #[.slice (some ⟨bN, 0, none⟩) g.ns.length g.ns.length, .int .i64 ((turnAt g.ns.length b r : Nat) : Int)], cellsR w.heap.size 24 #[.slice (some ⟨b1, o1, none⟩) g.ns.length ca, .int .i64 (r : Int)]]))
          (fun v60 _ => X.args.length - (intOf v60).toNat)
        case atStart => exact ⟨0, .slice none 0 0, Nat.zero_le _, rfl, HMA.out⟩
        case round =>
          obtain ⟨j, vA, hj, rfl, hR⟩ := hrel
          obtain ⟨aA, cA, rfl, _⟩ := hR.out.val 0 rfl
          by_cases hjl : j < X.args.length
          · obtain ⟨y, hy, hyl⟩ := HXK.out j hjl
            obtain ⟨b2, o2, rfl, hzc⟩ := XA.out.at_ j (.int .i64 X.args[j]) (by rw [List.getElem?_map, List.getElem?_eq_getElem hjl]; rfl)
            have hzc := cell_below hR.out.below hzc
            have HTK : Hid ((X.args.take (j + 1)).map (fun z => Value.int .i64 (turnArg g.ns.length b z)) = (X.args.take j).map (fun z => Value.int .i64 (turnArg g.ns.length b z)) ++ [.int .i64 (turnArg g.ns.length b X.args[j])]) := by
              show _ = _; rw [List.take_add_one, List.getElem?_eq_getElem hjl, List.map_append]; rfl
            rw [hy] at hzc HTK
            have HTK2 : Hid (turnArg g.ns.length b (y : Int) = ((turnAt g.ns.length b y : Nat) : Int)) := rfl
            have q2 : wr.cell? ⟨wo.heap.size + 1, 2, none⟩ = some (.slice aA j cA) := hR.out.cell 1 rfl 2 rfl
            have q0 := hR.out.cell 2 rfl 2 rfl
            clear hy
            go_upto_region 14 with fail
            have E1 : IntKind.i64.wrap ((y : Int) + (b : Int)) = (y : Int) + (b : Int) := IntWalk.i64_in ((y : Int) + (b : Int)) (by omega)
            have E2 : ((y : Int) + (b : Int)).tmod (g.ns.length : Int) = ((turnAt g.ns.length b y : Nat) : Int) := by unfold turnAt; rw [Int.tmod_eq_emod_of_nonneg (by omega), Int.natCast_emod, Int.natCast_add]
            generalize hu : turnAt g.ns.length b y = u at *
            have MR := Tre.hid hR.out.drew
            refine wp_region_keep (S := (fun w' => w'.cell? ⟨wo.heap.size + 1, 2, none⟩ = some (.slice aA j cA))) [11] (by kernel_rfl) ?_ (fun hH0 => ?_)
            · exact q2
            refine lPure (i := 0) (some 64) (v := ?_) (by rfl) (by kernel_rfl) (by kernel_rfl) (by kernel_rfl) (by kernel_rfl) (fun _ _ _ h => h) (by rfl) ?_ (keep_of hH0) ?_
            rotate_left
            · intro w; simp only [List.getElem?_toArray, List.getElem?_cons_zero, Option.map_some, Option.some.injEq]; (first | (go_simp; done) | (go_simp; with_reducible rfl))
            try simp only [Act.put, List.setIfInBounds_toArray, List.set_cons_zero, List.set_cons_succ]
            refine lPure (i := 2) (some 66) (v := ?_) (by rfl) (by kernel_rfl) (by kernel_rfl) (by kernel_rfl) (by kernel_rfl) (fun _ _ _ h => h) (by rfl) ?_ (keep_of hH0) ?_
            rotate_left
            · intro w; simp only [List.getElem?_toArray, List.getElem?_cons_succ, List.getElem?_cons_zero, Option.map_some, Option.some.injEq]; (first | (go_simp; done) | (go_simp; with_reducible rfl))
            try simp only [Act.put, List.setIfInBounds_toArray, List.set_cons_zero, List.set_cons_succ]
            refine lPure (i := 3) (some 67) (v := ?_) (by rfl) (by kernel_rfl) (by kernel_rfl) (by kernel_rfl) (by kernel_rfl) (fun _ _ _ h => h) (by rfl) ?_ (keep_of hH0) ?_
            rotate_left
            · intro w; simp only [List.getElem?_toArray, List.getElem?_cons_succ, List.getElem?_cons_zero, Option.map_some, Option.some.injEq]; (first | (go_simp; done) | (go_simp; with_reducible rfl))
            try simp only [Act.put, List.setIfInBounds_toArray, List.set_cons_zero, List.set_cons_succ]
            refine lPure (i := 4) (some 68) (v := ?_) (by rfl) (by kernel_rfl) (by kernel_rfl) (by kernel_rfl) (by kernel_rfl) (fun _ _ _ h => h) (by rfl) ?_ (keep_of hH0) ?_
            rotate_left
            · intro w; simp only [List.getElem?_toArray, List.getElem?_cons_succ, List.getElem?_cons_zero, Option.map_some, Option.some.injEq]; (first | (go_simp; done) | (go_simp; with_reducible rfl))
            try simp only [Act.put, List.setIfInBounds_toArray, List.set_cons_zero, List.set_cons_succ]
            refine lPure (i := 5) (some 69) (v := ?_) (by rfl) (by kernel_rfl) (by kernel_rfl) (by kernel_rfl) (by kernel_rfl) (fun _ _ _ h => h) (by rfl) ?_ (keep_of hH0) ?_
            rotate_left
            · intro w; simp only [List.getElem?_toArray, List.getElem?_cons_succ, List.getElem?_cons_zero, Option.map_some, Option.some.injEq]; (first | (go_simp; done) | (go_simp; with_reducible rfl))
            try simp only [Act.put, List.setIfInBounds_toArray, List.set_cons_zero, List.set_cons_succ]
            refine lPure (i := 6) (some 70) (v := ?_) (by rfl) (by kernel_rfl) (by kernel_rfl) (by kernel_rfl) (by kernel_rfl) (fun _ _ _ h => h) (by rfl) ?_ (keep_of hH0) ?_
            rotate_left
            · intro w; simp only [List.getElem?_toArray, List.getElem?_cons_succ, List.getElem?_cons_zero, Option.map_some, Option.some.injEq]; (first | (go_simp; done) | (go_simp; with_reducible rfl))
            try simp only [Act.put, List.setIfInBounds_toArray, List.set_cons_zero, List.set_cons_succ]
            refine lPure (i := 7) (some 71) (v := ?_) (by rfl) (by kernel_rfl) (by kernel_rfl) (by kernel_rfl) (by kernel_rfl) (fun _ _ _ h => h) (by rfl) ?_ (keep_of hH0) ?_
            rotate_left
            · intro w; simp only [List.getElem?_toArray, List.getElem?_cons_succ, List.getElem?_cons_zero, Option.map_some, Option.some.injEq]; (first | (go_simp; done) | (go_simp; with_reducible rfl))
            try simp only [Act.put, List.setIfInBounds_toArray, List.set_cons_zero, List.set_cons_succ]
            refine lTake (i := 1) (some 65) (v := ?_) (by rfl) (by kernel_rfl) (by kernel_rfl) (by kernel_rfl) (by kernel_rfl) (by kernel_rfl) (fun _ _ _ h => h) (by rfl) ?_ hH0 ?_
            rotate_left
            · intro w hSw; (try dsimp only at hSw); simp only [List.getElem?_toArray, List.getElem?_cons_succ, List.getElem?_cons_zero, Option.map_some, Option.some.injEq]; (first | (go_simp; done) | (go_simp; with_reducible rfl))
            try simp only [Act.put, List.setIfInBounds_toArray, List.set_cons_zero, List.set_cons_succ]
            refine lOne 8 (by kernel_rfl) (LStep.op (fun K hK => ?_))
            go_simp
            have HB := Tre.hid (MR.out.allocRow #[.int .i64 (u : Int)] 3 1 1 (by unfold maxLen; omega) rfl)
            refine hK.out _ _ ?_ (fun hH1 => ?_)
            · exact HB.out.cell 2 rfl 2 rfl
            clear hK K hH0
            try simp only [Act.put, List.setIfInBounds_toArray, List.set_cons_zero, List.set_cons_succ]
            refine lOne 9 (by kernel_rfl) (LStep.op (fun K hK => ?_))
            simp only [List.getElem?_toArray, List.getElem?_cons_succ, List.getElem?_cons_zero]
            rw [if_pos (by rfl)]
            refine wp_append_row _ _ _ 30 (by rfl) 3 ji _ 1 8 Try.underlying30 L1.out L2.out L3.out L4.out rfl (by omega) (.slice aA j cA) j ((X.args.take j).map fun z => Value.int .i64 (turnArg g.ns.length b z)) (by rfl) (HB.out.row 1 rfl) (some ⟨wr.heap.size, 0, none⟩) 1 1 [.int .i64 (u : Int)] (by rfl) ⟨rfl, fun j u hj => ⟨_, 0, rfl, by rw [Nat.zero_add]; exact HB.out.cellAt 0 rfl j hj⟩⟩ (by simp [Value.oneCell']) (by unfold maxLen; omega) (by omega) ?_
            intro v' w4 hown4 hgrow4 hat4
            have M4 := HB.out.grow 1 rfl hgrow4 hown4 hat4
            obtain ⟨a4, c4, rfl, _⟩ := M4.val 1 rfl
            have H4 := Tre.hid M4
            clear M4 hown4 hgrow4 hat4
            (try dsimp only)
            refine hK.out _ _ ?_ (fun hH2 => ?_)
            · exact H4.out.cell 2 rfl 2 rfl
            clear hK K hH1
            try simp only [Act.put, List.setIfInBounds_toArray, List.set_cons_zero, List.set_cons_succ]
            refine lPure (i := 10) (some 74) (v := ?_) (by rfl) (by kernel_rfl) (by kernel_rfl) (by kernel_rfl) (by kernel_rfl) (fun _ _ _ h => h) (by rfl) ?_ (keep_of hH2) ?_
            rotate_left
            · intro w; simp only [List.getElem?_toArray, List.getElem?_cons_succ, List.getElem?_cons_zero, Option.map_some, Option.some.injEq]; (first | (go_simp; done) | (go_simp; with_reducible rfl))
            try simp only [Act.put, List.setIfInBounds_toArray, List.set_cons_zero, List.set_cons_succ]
            refine lOne 11 (by kernel_rfl) (LFall.op (by kernel_rfl) (fun K hK => ?_))
            have f2 := H4.out.free 2 rfl 2
            have q2 := H4.out.cell 2 rfl 2 rfl
            have H5 := Tre.hid (H4.out.setCell 2 rfl 2 (.slice a4 (j + 1) c4))
            go_simp
            refine hK.out _ _ ?_
            clear hK K hH2
            try simp only [Act.put, List.setIfInBounds_toArray, List.set_cons_zero, List.set_cons_succ]
            refine lDone (by kernel_rfl) ?_
            have H6 := H5.out
            rw [← HTK2.out, ← HTK.out] at H6
            have H7 := Tre.hid (H6.del 0)
            clear H6 q2 f2 E1 E2
            go_wp2_with fail
            go_roundw
            case rel => exact ⟨j + 1, .slice a4 (j + 1) c4, by omega, by go_num, H7.out⟩
            case measure => simp [intOf]; omega
          · have e : j = X.args.length := by omega
            subst e
            have hR' := hR.out
            rw [List.take_length, nodesR_len HDL.out] at hR'
            have HR1 := Tre.hid hR'
            obtain ⟨y0, y1, y2, y3, y4⟩ := five hR' 1 rfl
            have i1 : (0 : Int) ≤ ((turnAt g.ns.length b k : Nat) : Int) := by omega
            have i2 : ((turnAt g.ns.length b k : Nat) : Int) < (g.ns.length : Int) := by have := turnAt_lt (by_ := b) (i := k) hg1; omega
            have p0 : wr.cell? ⟨B, 0, none⟩ = some (.slice (some ⟨bN, 0, none⟩) g.ns.length g.ns.length) := hR'.cell 5 rfl 0 rfl
            clear hR hR'
            go_upto_region 16 with fail
            have E1 : IntKind.i64.wrap ((k : Int) + (b : Int)) = (k : Int) + (b : Int) := IntWalk.i64_in ((k : Int) + (b : Int)) (by omega)
            have E2 : ((k : Int) + (b : Int)).tmod (g.ns.length : Int) = ((turnAt g.ns.length b k : Nat) : Int) := by unfold turnAt; rw [Int.tmod_eq_emod_of_nonneg (by omega), Int.natCast_emod, Int.natCast_add]
            have htn := turnAt_lt (by_ := b) (i := k) hg1
            generalize hu : turnAt g.ns.length b k = u at *
            have HU := Tre.hid hu
            have MR := Tre.hid HR1.out.drew
            have NF := fun (j : Nat) => HR1.out.freeAt 3 rfl j
            have hul : u < ds.length := by rw [HDL.out]; exact htn
            have NC := fun (j : Nat) (v : Value) (hj : j < 5) (hv : ds[u].cells[j]? = some v) => HR1.out.cellAt 3 rfl (u * 5 + j) ((cells_at ds u j _ (List.getElem?_eq_getElem hul) hj).trans hv)
            have F0 := NF (u * 5)
            have F1 := NF (u * 5 + 1)
            have F2 := NF (u * 5 + 2)
            have F3 := NF (u * 5 + 3)
            have F4 := NF (u * 5 + 4)
            have C0 := NC 0 _ (by omega) rfl
            have C1 := NC 1 _ (by omega) rfl
            have C2 := NC 2 _ (by omega) rfl
            have C3 := NC 3 _ (by omega) rfl
            have C4 := NC 4 _ (by omega) rfl
            clear NF NC hu
            rw [Nat.add_zero] at C0
            refine wp_region_keep (S := (fun w' => w'.cell? ⟨B, 0, none⟩ = some (.slice (some ⟨bN, 0, none⟩) g.ns.length g.ns.length) ∧ w'.cell? ⟨wo.heap.size + 1, 0, none⟩ = some (.int .i64 X.kind) ∧ w'.cell? ⟨wo.heap.size + 1, 1, none⟩ = some (.string X.name) ∧ w'.cell? ⟨wo.heap.size + 1, 2, none⟩ = some (.slice aA X.args.length cA) ∧ w'.cell? ⟨wo.heap.size + 1, 3, none⟩ = some (.slice lx X.labels.length dx) ∧ w'.cell? ⟨wo.heap.size + 1, 4, none⟩ = some (.bool X.isOpen))) [10] (by kernel_rfl) ?_ (fun hH0 => ?_)
            · exact ⟨p0, y0, y1, y2, y3, y4⟩
            refine lPure (i := 0) (some 76) (v := ?_) (by rfl) (by kernel_rfl) (by kernel_rfl) (by kernel_rfl) (by kernel_rfl) (fun _ _ _ h => h) (by rfl) ?_ (keep_of hH0) ?_
            rotate_left
            · intro w; simp only [List.getElem?_toArray, List.getElem?_cons_zero, Option.map_some, Option.some.injEq]; (first | (go_simp; done) | (go_simp; with_reducible rfl))
            try simp only [Act.put, List.setIfInBounds_toArray, List.set_cons_zero, List.set_cons_succ]
            refine lPure (i := 2) (some 78) (v := ?_) (by rfl) (by kernel_rfl) (by kernel_rfl) (by kernel_rfl) (by kernel_rfl) (fun _ _ _ h => h) (by rfl) ?_ (keep_of hH0) ?_
            rotate_left
            · intro w; simp only [List.getElem?_toArray, List.getElem?_cons_succ, List.getElem?_cons_zero, Option.map_some, Option.some.injEq]; (first | (go_simp; done) | (go_simp; with_reducible rfl))
            try simp only [Act.put, List.setIfInBounds_toArray, List.set_cons_zero, List.set_cons_succ]
            refine lPure (i := 3) (some 79) (v := ?_) (by rfl) (by kernel_rfl) (by kernel_rfl) (by kernel_rfl) (by kernel_rfl) (fun _ _ _ h => h) (by rfl) ?_ (keep_of hH0) ?_
            rotate_left
            · intro w; simp only [List.getElem?_toArray, List.getElem?_cons_succ, List.getElem?_cons_zero, Option.map_some, Option.some.injEq]; (first | (go_simp; done) | (go_simp; with_reducible rfl))
            try simp only [Act.put, List.setIfInBounds_toArray, List.set_cons_zero, List.set_cons_succ]
            refine lPure (i := 4) (some 80) (v := ?_) (by rfl) (by kernel_rfl) (by kernel_rfl) (by kernel_rfl) (by kernel_rfl) (fun _ _ _ h => h) (by rfl) ?_ (keep_of hH0) ?_
            rotate_left
            · intro w; simp only [List.getElem?_toArray, List.getElem?_cons_succ, List.getElem?_cons_zero, Option.map_some, Option.some.injEq]; (first | (go_simp; done) | (go_simp; with_reducible rfl))
            try simp only [Act.put, List.setIfInBounds_toArray, List.set_cons_zero, List.set_cons_succ]
            refine lPure (i := 5) (some 81) (v := ?_) (by rfl) (by kernel_rfl) (by kernel_rfl) (by kernel_rfl) (by kernel_rfl) (fun _ _ _ h => h) (by rfl) ?_ (keep_of hH0) ?_
            rotate_left
            · intro w; simp only [List.getElem?_toArray, List.getElem?_cons_succ, List.getElem?_cons_zero, Option.map_some, Option.some.injEq]; (first | (go_simp; done) | (go_simp; with_reducible rfl))
            try simp only [Act.put, List.setIfInBounds_toArray, List.set_cons_zero, List.set_cons_succ]
            refine lPure (i := 6) (some 82) (v := ?_) (by rfl) (by kernel_rfl) (by kernel_rfl) (by kernel_rfl) (by kernel_rfl) (fun _ _ _ h => h) (by rfl) ?_ (keep_of hH0) ?_
            rotate_left
            · intro w; simp only [List.getElem?_toArray, List.getElem?_cons_succ, List.getElem?_cons_zero, Option.map_some, Option.some.injEq]; (first | (go_simp; done) | (go_simp; with_reducible rfl))
            try simp only [Act.put, List.setIfInBounds_toArray, List.set_cons_zero, List.set_cons_succ]
            refine lPure (i := 7) (some 83) (v := ?_) (by rfl) (by kernel_rfl) (by kernel_rfl) (by kernel_rfl) (by kernel_rfl) (fun _ _ _ h => h) (by rfl) ?_ (keep_of hH0) ?_
            rotate_left
            · intro w; simp only [List.getElem?_toArray, List.getElem?_cons_succ, List.getElem?_cons_zero, Option.map_some, Option.some.injEq]; (first | (go_simp; done) | (go_simp; with_reducible rfl))
            try simp only [Act.put, List.setIfInBounds_toArray, List.set_cons_zero, List.set_cons_succ]
            refine lTake (i := 1) (some 77) (v := ?_) (by rfl) (by kernel_rfl) (by kernel_rfl) (by kernel_rfl) (by kernel_rfl) (by kernel_rfl) (fun _ _ _ h => h) (by rfl) ?_ hH0 ?_
            rotate_left
            · intro w hSw; (try dsimp only at hSw); simp only [List.getElem?_toArray, List.getElem?_cons_succ, List.getElem?_cons_zero, Option.map_some, Option.some.injEq]; (first | (go_simp; done) | (go_simp; with_reducible rfl))
            try simp only [Act.put, List.setIfInBounds_toArray, List.set_cons_zero, List.set_cons_succ]
            refine lTake (i := 8) (some 84) (v := ?_) (by rfl) (by kernel_rfl) (by kernel_rfl) (by kernel_rfl) (by kernel_rfl) (by kernel_rfl) (fun _ _ _ h => h) (by rfl) ?_ hH0 ?_
            rotate_left
            · intro w hSw; (try dsimp only at hSw); simp only [List.getElem?_toArray, List.getElem?_cons_succ, List.getElem?_cons_zero, Option.map_some, Option.some.injEq]; (first | (go_simp; done) | (go_simp; with_reducible rfl))
            try simp only [Act.put, List.setIfInBounds_toArray, List.set_cons_zero, List.set_cons_succ]
            refine lPure (i := 9) (some 85) (v := ?_) (by rfl) (by kernel_rfl) (by kernel_rfl) (by kernel_rfl) (by kernel_rfl) (fun _ _ _ h => h) (by rfl) ?_ (keep_of hH0) ?_
            rotate_left
            · intro w; simp only [List.getElem?_toArray, List.getElem?_cons_succ, List.getElem?_cons_zero, Option.map_some, Option.some.injEq]; (first | (go_simp; done) | (go_simp; with_reducible rfl))
            try simp only [Act.put, List.setIfInBounds_toArray, List.set_cons_zero, List.set_cons_succ]
            refine lOne 10 (by kernel_rfl) (LFall.op (by kernel_rfl) (fun K hK => ?_))
            go_simp
            refine hK.out _ _ ?_
            clear hK K hH0
            try simp only [Act.put, List.setIfInBounds_toArray, List.set_cons_zero, List.set_cons_succ]
            refine lDone (by kernel_rfl) ?_
            have W5 := (((((HR1.out.setRow 3 rfl (u * 5) (.int .i64 X.kind)).setRow 3 rfl (u * 5 + 1) (.string X.name)).setRow 3 rfl (u * 5 + 2) (.slice aA X.args.length cA)).setRow 3 rfl (u * 5 + 3) (.slice lx X.labels.length dx)).setRow 3 rfl (u * 5 + 4) (.bool X.isOpen)).drew.nodeIn
            rw [argsR_turn g.ns.length b X _ (.slice lx X.labels.length dx)] at W5
            have W6 := Tre.hid W5
            clear W5 E1 E2 F0 F1 F2 F3 F4 C0 C1 C2 C3 C4
            go_wp2_with fail
            go_roundw
            case rel => exact ⟨k + 1, ds.set u ⟨turnNode g.ns.length b X, .slice aA X.args.length cA, .slice lx X.labels.length dx⟩, l ++ [argsR ⟨turnNode g.ns.length b X, .slice aA X.args.length cA, .slice lx X.labels.length dx⟩], by omega, by go_num, (List.length_set ..).trans HDL.out, by rw [← HU.out]; exact TS.step hT.out hlt _ (by rw [HXX.out]), (hD.out.more _).set _ _ (by simp) ⟨lx, dx, rfl, XL.out, xlc⟩, by rw [← nodesR_put HDL.out hul]; exact W6.out⟩
            case measure => simp [intOf]; omega
      · have e : k = g.ns.length := by omega
        subst e
        have HTU := Tre.hid (hT.out.done HR.out)
        have hnl : (ds.map NodeV.n).length = g.ns.length := by rw [List.length_map, HDL.out]
        have HNL := Tre.hid hnl
        have NH : NodesAt wr (some ⟨bN, 0, none⟩) (ds.map NodeV.n) := nodesAt_of (c := ds.length) (by have h := hI.out.at_ 0 rfl; rw [← HDL.out] at h; exact h) (hD.out.val hI.out.below (hI.out.at_ 1 rfl))
        have WH : (⟨ds.map NodeV.n, ((turnAt g.ns.length b r : Nat) : Int)⟩ : Tre.Graph).weight ≤ 1048576 := by rw [HTU.out.weight hg1]; exact wg
        have C := same_any a (some ⟨bN, 0, none⟩) ca g.ns.length g ⟨ds.map NodeV.n, ((turnAt g.ns.length b r : Nat) : Int)⟩ wr (HG.out.below hI.out.below) NH (by omega) (by omega) (HM.out.below hI.out.below)
        rw [sameB_true (HTU.out.same CG.out)] at C
        simp only [hnl] at C
        rw [HR.out] at C
        have HC := Tre.hid C
        obtain ⟨p0, p1⟩ := hI.out.two 2 rfl
        obtain ⟨g0, g1⟩ := hI.out.two 3 rfl
        have HNH := Tre.hid NH
        clear C hnl NH
        go_wp2_with fail
        refine HC.out.mono ?_
        rintro e w5 ⟨rfl, b5⟩
        have M5 := hI.out.quiet b5
        have HM5 := Tre.hid M5
        clear p0 p1 g0 g1
        obtain ⟨p0, p1⟩ := M5.two 2 rfl
        obtain ⟨g0, g1⟩ := M5.two 3 rfl
        clear M5 b5 hI
        have e4 : IntKind.i64.wrap (t : Int) = (t : Int) := IntWalk.i64_in _ (by omega)
        have e5 : (t : Int).tmod (g.ns.length : Int) = ((t % g.ns.length : Nat) : Int) := by rw [Int.tmod_eq_emod_of_nonneg (by omega), Int.natCast_emod]
        have e6 : (t : Int) % (g.ns.length : Int) = ((t % g.ns.length : Nat) : Int) := (Int.natCast_emod ..).symm
        have hkl : t % g.ns.length < g.ns.length := Nat.mod_lt _ hg1
        generalize hkk : t % g.ns.length = k at *
        clear hkk
        have i1 : (0 : Int) ≤ (k : Int) := by omega
        have i2 : (k : Int) < (g.ns.length : Int) := by omega
        have hul : k < ds.length := by rw [HDL.out]; exact hkl
        have NC := fun (j : Nat) (v : Value) (hj : j < 5) (hv : ds[k].cells[j]? = some v) => HM5.out.cellAt 0 (by rw [nodesR_len HDL.out]; rfl) (k * 5 + j) ((cells_at ds k j _ (List.getElem?_eq_getElem hul) hj).trans hv)
        have HDK : Hid (ds[k]? = some ds[k]) := List.getElem?_eq_getElem hul
        generalize hd : ds[k] = d at *
        have C0 := NC 0 _ (by omega) rfl
        have C1 := NC 1 _ (by omega) rfl
        have C2 := NC 2 _ (by omega) rfl
        have C3 := NC 3 _ (by omega) rfl
        have C4 := NC 4 _ (by omega) rfl
        rw [Nat.add_zero] at C0
        clear NC hd
        have HDV := hD.out.val HM5.out.below (HM5.out.at_ 1 rfl) d (List.mem_of_getElem? HDK.out)
        have O2 : Hid (d.va.oneCell' = true) := by obtain ⟨_, _, _, _, ea, _⟩ := HDV; show _ = _; rw [ea]; rfl
        have O3 : Hid (d.vl.oneCell' = true) := by obtain ⟨_, _, _, _, _, el, _⟩ := HDV; show _ = _; rw [el]; rfl
        clear HDV
        by_cases k1 : d.n.kind = 1
        · go_wp2_with fail
          go_ret
          exact ⟨rfl, HM5.out.below⟩
        cases ko : d.n.isOpen
        · have HFR : Hid (freeB d.n = false) := by show _ = _; unfold freeB; rw [ko]; simp [k1]
          rw [ko] at C4
          have HKO := Tre.hid ko
          clear ko
          go_upto_region 23 with fail
          have MR := Tre.hid HM5.out.drew
          refine wp_region_keep (S := (fun w' => w'.cell? ⟨B, 0, none⟩ = some (.slice (some ⟨bN, 0, none⟩) g.ns.length g.ns.length) ∧ w'.cell? ⟨bN, k * 5, none⟩ = some (.int .i64 d.n.kind) ∧ w'.cell? ⟨bN, k * 5 + 1, none⟩ = some (.string d.n.name) ∧ w'.cell? ⟨bN, k * 5 + 2, none⟩ = some d.va ∧ w'.cell? ⟨bN, k * 5 + 3, none⟩ = some d.vl ∧ w'.cell? ⟨bN, k * 5 + 4, none⟩ = some (.bool false))) [8, 10] (by kernel_rfl) ?_ (fun hH0 => ?_)
          · exact ⟨p0, C0, C1, C2, C3, C4⟩
          refine lPure (i := 0) (some 110) (v := ?_) (by rfl) (by kernel_rfl) (by kernel_rfl) (by kernel_rfl) (by kernel_rfl) (fun _ _ _ h => h) (by rfl) ?_ (keep_of hH0) ?_
          rotate_left
          · intro w; simp only [List.getElem?_toArray, List.getElem?_cons_zero, Option.map_some, Option.some.injEq]; (first | (go_simp; done) | (go_simp; with_reducible rfl))
          try simp only [Act.put, List.setIfInBounds_toArray, List.set_cons_zero, List.set_cons_succ]
          refine lPure (i := 2) (some 112) (v := ?_) (by rfl) (by kernel_rfl) (by kernel_rfl) (by kernel_rfl) (by kernel_rfl) (fun _ _ _ h => h) (by rfl) ?_ (keep_of hH0) ?_
          rotate_left
          · intro w; simp only [List.getElem?_toArray, List.getElem?_cons_succ, List.getElem?_cons_zero, Option.map_some, Option.some.injEq]; (first | (go_simp; done) | (go_simp; with_reducible rfl))
          try simp only [Act.put, List.setIfInBounds_toArray, List.set_cons_zero, List.set_cons_succ]
          refine lPure (i := 4) (some 114) (v := ?_) (by rfl) (by kernel_rfl) (by kernel_rfl) (by kernel_rfl) (by kernel_rfl) (fun _ _ _ h => h) (by rfl) ?_ (keep_of hH0) ?_
          rotate_left
          · intro w; simp only [List.getElem?_toArray, List.getElem?_cons_succ, List.getElem?_cons_zero, Option.map_some, Option.some.injEq]; (first | (go_simp; done) | (go_simp; with_reducible rfl))
          try simp only [Act.put, List.setIfInBounds_toArray, List.set_cons_zero, List.set_cons_succ]
          refine lTake (i := 1) (some 111) (v := ?_) (by rfl) (by kernel_rfl) (by kernel_rfl) (by kernel_rfl) (by kernel_rfl) (by kernel_rfl) (fun _ _ _ h => h) (by rfl) ?_ hH0 ?_
          rotate_left
          · intro w hSw; (try dsimp only at hSw); simp only [List.getElem?_toArray, List.getElem?_cons_succ, List.getElem?_cons_zero, Option.map_some, Option.some.injEq]; (first | (go_simp; done) | (go_simp; with_reducible rfl))
          try simp only [Act.put, List.setIfInBounds_toArray, List.set_cons_zero, List.set_cons_succ]
          refine lTake (i := 3) (some 113) (v := ?_) (by rfl) (by kernel_rfl) (by kernel_rfl) (by kernel_rfl) (by kernel_rfl) (by kernel_rfl) (fun _ _ _ h => h) (by rfl) ?_ hH0 ?_
          rotate_left
          · intro w hSw; (try dsimp only at hSw); simp only [List.getElem?_toArray, List.getElem?_cons_succ, List.getElem?_cons_zero, Option.map_some, Option.some.injEq]; (first | (go_simp; done) | (go_simp; with_reducible rfl))
          try simp only [Act.put, List.setIfInBounds_toArray, List.set_cons_zero, List.set_cons_succ]
          refine lPure (i := 5) (some 115) (v := ?_) (by rfl) (by kernel_rfl) (by kernel_rfl) (by kernel_rfl) (by kernel_rfl) (fun _ _ _ h => h) (by rfl) ?_ (keep_of hH0) ?_
          rotate_left
          · intro w; simp only [List.getElem?_toArray, List.getElem?_cons_succ, List.getElem?_cons_zero, Option.map_some, Option.some.injEq]; (first | (go_simp; done) | (go_simp; with_reducible rfl))
          try simp only [Act.put, List.setIfInBounds_toArray, List.set_cons_zero, List.set_cons_succ]
          refine lTake (i := 6) (some 116) (v := ?_) (by rfl) (by kernel_rfl) (by kernel_rfl) (by kernel_rfl) (by kernel_rfl) (by kernel_rfl) (fun _ _ _ h => h) (by rfl) ?_ hH0 ?_
          rotate_left
          · intro w hSw; (try dsimp only at hSw); simp only [List.getElem?_toArray, List.getElem?_cons_succ, List.getElem?_cons_zero, Option.map_some, Option.some.injEq]; (first | (go_simp; done) | (go_simp; with_reducible rfl))
          try simp only [Act.put, List.setIfInBounds_toArray, List.set_cons_zero, List.set_cons_succ]
          refine lOne 7 (by kernel_rfl) (LStep.op (fun K hK => ?_))
          go_simp
          have HB := Tre.hid ((HM5.out.allocRow #[.int .i64 d.n.kind, .string d.n.name, d.va, d.vl, .bool false] 33 5 1 (by unfold maxLen; omega) rfl).drew)
          have BB : Below w5.heap.size w5 (w5.alloc (.cells #[.int .i64 d.n.kind, .string d.n.name, d.va, d.vl, .bool false] 33)).drew := ((Below.refl _ _).alloc (Nat.le_refl _) _).drew
          refine hK.out _ _ ?_ (fun hH1 => ?_)
          · exact ⟨cell_below BB p0, cell_below BB C0, cell_below BB C1, cell_below BB C2, cell_below BB C3, cell_below BB C4⟩
          clear hK K hH0
          try simp only [Act.put, List.setIfInBounds_toArray, List.set_cons_zero, List.set_cons_succ]
          refine lOne 8 (by kernel_rfl) (LFall.op (by kernel_rfl) (fun K hK => ?_))
          clear BB
          simp only [List.getElem?_toArray, List.getElem?_cons_succ, List.getElem?_cons_zero]
          rw [if_pos (by rfl)]
          refine wp_append_row _ _ _ 22 (by rfl) 33 ii _ 5 80 Try.underlying22 J1.out J2.out J3.out J4.out rfl (by omega) (.slice (some ⟨bN, 0, none⟩) g.ns.length g.ns.length) g.ns.length (ds.flatMap NodeV.cells) (by rfl) (HB.out.row 1 (by rw [nodesR_len HDL.out]; rfl)) (some ⟨w5.heap.size, 0, none⟩) 1 1 [.int .i64 d.n.kind, .string d.n.name, d.va, d.vl, .bool false] (by rfl) ⟨rfl, fun j u hj => ⟨_, 0, rfl, by rw [Nat.zero_add]; exact HB.out.cellAt 0 rfl j hj⟩⟩ (fun u hu => by simp only [List.mem_cons, List.not_mem_nil, or_false] at hu; rcases hu with rfl | rfl | rfl | rfl | rfl; exact rfl; exact rfl; exact O2.out; exact O3.out; exact rfl) (by unfold maxLen; omega) (by omega) ?_
          intro v' w6 hown6 hgrow6 hat6
          have M6 := HB.out.grow 1 (by rw [nodesR_len HDL.out]; rfl) hgrow6 hown6 hat6
          obtain ⟨gN, cN, rfl, _, _⟩ := M6.pos 1 rfl
          have H6 := Tre.hid M6
          clear M6 hown6 hgrow6 hat6
          (try dsimp only)
          refine hK.out _ _ ?_
          clear hK K hH1
          try simp only [Act.put, List.setIfInBounds_toArray, List.set_cons_zero, List.set_cons_succ]
          refine lPure (i := 9) (some 119) (v := ?_) (by rfl) (by kernel_rfl) (by kernel_rfl) (by kernel_rfl) (by kernel_rfl) (fun _ _ _ h => h) (by rfl) ?_ (keep_fell (by kernel_rfl)) ?_
          rotate_left
          · intro w; simp only [List.getElem?_toArray, List.getElem?_cons_succ, List.getElem?_cons_zero, Option.map_some, Option.some.injEq]; (first | (go_simp; done) | (go_simp; with_reducible rfl))
          try simp only [Act.put, List.setIfInBounds_toArray, List.set_cons_zero, List.set_cons_succ]
          refine lOne 10 (by kernel_rfl) (LFall.op (by kernel_rfl) (fun K hK => ?_))
          have f2 := H6.out.free 3 rfl 0
          have q2 := H6.out.cell 3 rfl 0 rfl
          have H7 := Tre.hid (H6.out.setCell 3 rfl 0 (.slice (some ⟨gN, 0, none⟩) (g.ns.length + 1) cN))
          go_simp
          refine hK.out _ _ ?_
          clear hK K
          try simp only [Act.put, List.setIfInBounds_toArray, List.set_cons_zero, List.set_cons_succ]
          refine lDone (by kernel_rfl) ?_
          have H8 := H7.out.del 0
          have eN : nodesR (.slice (some ⟨gN, 0, none⟩) (g.ns.length + 1) cN) (ds ++ [d]) = rowR 33 5 (.slice (some ⟨gN, 0, none⟩) (g.ns.length + 1) cN) (g.ns.length + 1) (ds.flatMap NodeV.cells ++ [.int .i64 d.n.kind, .string d.n.name, d.va, d.vl, .bool false]) := by rw [nodesR_snoc_len HDL.out, NodeV.cells, HKO.out]
          have H9 : Mem w (w6.setCell ⟨B, 0, none⟩ (.slice (some ⟨gN, 0, none⟩) (g.ns.length + 1) cN)) [nodesR (.slice (some ⟨gN, 0, none⟩) (g.ns.length + 1) cN) (ds ++ [d]), manyR l, cellsR B 24 #[.slice (some ⟨gN, 0, none⟩) (g.ns.length + 1) cN, .int .i64 ((turnAt g.ns.length b r : Nat) : Int)], cellsR w.heap.size 24 #[.slice a g.ns.length ca, .int .i64 (r : Int)]] := by rw [eN]; exact H8
          have HN9 := Tre.hid H9
          have HDA := Tre.hid (hD.out.again (List.mem_of_getElem? HDK.out))
          obtain ⟨p0, p1⟩ := HN9.out.two 2 rfl
          clear H8 eN H9 q2 f2 C0 C1 C2 C3 C4 g0 g1
          have hnl : (ds.map NodeV.n).length = g.ns.length := HNL.out
          have HNS : Hid (((ds ++ [d]).map NodeV.n).length = g.ns.length + 1) := by show _ = _; rw [List.map_append, List.length_append, hnl]; rfl
          have HAR : Hid (∀ y ∈ (ds ++ [d]).map NodeV.n, y.args.length ≤ 1048576) := by
            intro y hy
            have hy2 : y ∈ ds.map NodeV.n := by
              rw [List.map_append] at hy
              rcases List.mem_append.1 hy with hy | hy
              · exact hy
              · simp at hy; subst hy; exact List.mem_map.2 ⟨d, List.mem_of_getElem? HDK.out, rfl⟩
            have h1 := node_weight hy2
            have h2 := args_len y
            have h3 : ((ds.map NodeV.n).map Tre.Node.weight).sum ≤ 1048576 := WH
            omega
          clear hnl
          go_wp2_with fail
          go_loopw [123] (fun v123 wi => ∃ (i : Nat) (dd : List NodeV) (ll : List Res), i ≤ g.ns.length + 1 ∧ v123 = .int .i64 i ∧ dd.length = g.ns.length + 1 ∧ Hid (dd.map NodeV.n = half (twiceNode k g.ns.length) ((ds ++ [d]).map NodeV.n) i) ∧ Hid (DS w ll dd) ∧
              Hid (Mem w wi [nodesR (.slice (some ⟨gN, 0, none⟩) (g.ns.length + 1) cN) dd, manyR ll, cellsR B 24 #[.slice (some ⟨gN, 0, none⟩) (g.ns.length + 1) cN, .int .i64 ((turnAt g.ns.length b r : Nat) : Int)], cellsR w.heap.size 24 #[.slice a g.ns.length ca, .int .i64 (r : Int)]]))
            (fun v123 _ => g.ns.length + 1 - (intOf v123).toNat)
          case atStart => exact ⟨0, ds ++ [d], l, Nat.zero_le _, rfl, by rw [List.length_append, HDL.out]; rfl, by show _ = _; rw [half_zero], HDA.out, HN9.out⟩
          case round =>
            obtain ⟨i, dd, ll, hi, rfl, hdl, hH, hDD, hI⟩ := hrel
            have HDL2 := Tre.hid hdl
            clear hdl
            obtain ⟨p0, p1⟩ := hI.out.two 2 rfl
            by_cases hlt : i < g.ns.length + 1
            · have hil : i < dd.length := by rw [HDL2.out]; exact hlt
              have HX : Hid (dd[i]? = some dd[i]) := List.getElem?_eq_getElem hil
              generalize dd[i] = x at *
              obtain ⟨aa, cx, al, cl, ea, el, rA, rL, la, _⟩ := hDD.out.val hI.out.below (hI.out.at_ 1 rfl) x (List.mem_of_getElem? HX.out)
              have C2 := hI.out.cellAt 0 (by rw [nodesR_len HDL2.out]; rfl) (i * 5 + 2) ((cells_at dd i 2 x HX.out (by omega)).trans rfl)
              rw [ea] at C2
              have hxn : x.n = ((ds ++ [d]).map NodeV.n)[i]'(by rw [HNS.out]; exact hlt) := by
                have h1 := congrArg (fun l => l[i]?) hH.out
                simp only [List.getElem?_map, HX.out, Option.map_some] at h1
                rw [half_at _ _ (by rw [HNS.out]; exact hlt)] at h1
                exact Option.some.inj h1
              have hxl : x.n.args.length ≤ 1048576 := by rw [hxn]; exact HAR.out _ (List.getElem_mem _)
              have HHS : Hid (((dd.map NodeV.n).set i (twiceNode k g.ns.length x.n)) = half (twiceNode k g.ns.length) ((ds ++ [d]).map NodeV.n) (i + 1)) := by
                show _ = _
                rw [hH.out, hxn]
                exact half_set _ _ _
              clear hxn
              have RA := Tre.hid rA
              have MB := hI.out.allocRow #[] 3 1 0 (by unfold maxLen; omega) rfl
              have HMB := Tre.hid MB
              have BB := Tre.hid ((Below.refl wr.heap.size wr).alloc (Nat.le_refl _) (.cells #[] 3))
              have i1 : (0 : Int) ≤ (i : Int) := by omega
              have i2 : (i : Int) < ((g.ns.length + 1 : Nat) : Int) := by omega
              have p2 := MB.cell 3 rfl 0 rfl
              have C3 := MB.cellAt 1 (by rw [nodesR_len HDL2.out]; rfl) (i * 5 + 2) ((cells_at dd i 2 x HX.out (by omega)).trans rfl)
              rw [ea] at C3
              clear rA rL MB
              by_cases hne : 0 < x.n.args.length
              · have HZ : Hid (x.n.args[0]? = some x.n.args[0]) := List.getElem?_eq_getElem hne
                have HZE : Hid (x.n.args[0] = (k : Int) → (x.n.args.map (Value.int .i64)).set 0 (.int .i64 (g.ns.length : Int)) = (otherFirst k g.ns.length x.n.args).map (Value.int .i64)) := fun e => map_other k g.ns.length x.n.args hne e
                have HZN : Hid (x.n.args[0] ≠ (k : Int) → otherFirst k g.ns.length x.n.args = x.n.args) := fun e => other_same k g.ns.length x.n.args (.inr ⟨hne, e⟩)
                generalize x.n.args[0] = z at *
                by_cases hz : z = (k : Int)
                · subst hz
                  go_wp2_with (at_builtin; refine wpList_append_row _ rfl _ _ 30 rfl 3 ji _ 1 8 Try.underlying30 L1.out L2.out L3.out L4.out rfl (by omega) (.slice (some ⟨wr.heap.size, 0, none⟩) 0 0) 0 [] rfl (HMB.out.row 0 rfl) aa x.n.args.length cx (x.n.args.map (Value.int .i64)) rfl (RA.out.below BB.out) (fun u hu => by obtain ⟨z, _, rfl⟩ := List.mem_map.1 hu; rfl) (by unfold maxLen; omega) (by omega) ?_; intro v' w4 hown4 hgrow4 hat4; simp only [Nat.zero_add, List.nil_append] at hown4; have M4 := HMB.out.grow 0 rfl hgrow4 hown4 hat4; obtain ⟨a4, c4, rfl, _⟩ := M4.val 0 rfl; have HM4 := Tre.hid M4; clear M4 hown4 hgrow4 hat4 p2 C3 p0 C2; have p0 : w4.cell? ⟨B, 0, none⟩ = some (.slice (some ⟨gN, 0, none⟩) (g.ns.length + 1) cN) := HM4.out.cell 3 rfl 0 rfl; have C2 := HM4.out.cellAt 1 (by rw [nodesR_len HDL2.out]; rfl) (i * 5 + 2) ((cells_at dd i 2 x HX.out (by omega)).trans rfl); rw [ea] at C2; have F2 := HM4.out.freeAt 1 (by rw [nodesR_len HDL2.out]; rfl) (i * 5 + 2); clear ea; obtain ⟨g4, rfl, _, _, q0⟩ := HM4.out.getRow 0 rfl 0 (u := .int .i64 (k : Int)) (by rw [List.getElem?_map, HZ.out]; rfl); have F0 := HM4.out.freeAt 0 rfl 0; have M5 := (HM4.out.setRow 0 rfl 0 (.int .i64 (g.ns.length : Int))); have p3 : (w4.setCell ⟨g4, 0, none⟩ (.int .i64 (g.ns.length : Int))).cell? ⟨B, 0, none⟩ = some (.slice (some ⟨gN, 0, none⟩) (g.ns.length + 1) cN) := M5.cell 3 rfl 0 rfl; have C5 := M5.cellAt 1 (by rw [nodesR_len HDL2.out]; rfl) (i * 5 + 2) ((cells_at dd i 2 x HX.out (by omega)).trans rfl); have F5 := M5.freeAt 1 (by rw [nodesR_len HDL2.out]; rfl) (i * 5 + 2); have HM5' := Tre.hid M5; clear M5)
                  go_roundw
                  case rel =>
                    refine ⟨i + 1, dd.set i ⟨twiceNode k g.ns.length x.n, .slice (some ⟨g4, 0, none⟩) x.n.args.length c4, x.vl⟩, ll ++ [argsR ⟨twiceNode k g.ns.length x.n, .slice (some ⟨g4, 0, none⟩) x.n.args.length c4, x.vl⟩], by omega, by go_num, (List.length_set ..).trans HDL2.out, ?_, (hDD.out.more _).set _ _ (by simp) (hDD.out.lab x (List.mem_of_getElem? HX.out)), ?_⟩
                    · show _ = _
                      rw [List.map_set]
                      exact HHS.out
                    · refine Mem.nodeArgs HX.out HDL2.out ?_
                      exact (by have h := HM5'.out.setRow 1 (by rw [nodesR_len HDL2.out]; rfl) (i * 5 + 2) (.slice (some ⟨g4, 0, none⟩) x.n.args.length c4); rw [HZE.out rfl] at h; exact h)
                  case measure => simp [intOf]; omega
                · go_wp2_with (at_builtin; refine wpList_append_row _ rfl _ _ 30 rfl 3 ji _ 1 8 Try.underlying30 L1.out L2.out L3.out L4.out rfl (by omega) (.slice (some ⟨wr.heap.size, 0, none⟩) 0 0) 0 [] rfl (HMB.out.row 0 rfl) aa x.n.args.length cx (x.n.args.map (Value.int .i64)) rfl (RA.out.below BB.out) (fun u hu => by obtain ⟨z, _, rfl⟩ := List.mem_map.1 hu; rfl) (by unfold maxLen; omega) (by omega) ?_; intro v' w4 hown4 hgrow4 hat4; simp only [Nat.zero_add, List.nil_append] at hown4; have M4 := HMB.out.grow 0 rfl hgrow4 hown4 hat4; obtain ⟨a4, c4, rfl, _⟩ := M4.val 0 rfl; have HM4 := Tre.hid M4; clear M4 hown4 hgrow4 hat4 p2 C3 p0 C2; have p0 : w4.cell? ⟨B, 0, none⟩ = some (.slice (some ⟨gN, 0, none⟩) (g.ns.length + 1) cN) := HM4.out.cell 3 rfl 0 rfl; have C2 := HM4.out.cellAt 1 (by rw [nodesR_len HDL2.out]; rfl) (i * 5 + 2) ((cells_at dd i 2 x HX.out (by omega)).trans rfl); rw [ea] at C2; have F2 := HM4.out.freeAt 1 (by rw [nodesR_len HDL2.out]; rfl) (i * 5 + 2); clear ea; obtain ⟨g4, rfl, _, _, q0⟩ := HM4.out.getRow 0 rfl 0 (u := .int .i64 z) (by rw [List.getElem?_map, HZ.out]; rfl))
                  go_roundw
                  case rel =>
                    refine ⟨i + 1, dd.set i ⟨twiceNode k g.ns.length x.n, .slice (some ⟨g4, 0, none⟩) x.n.args.length c4, x.vl⟩, ll ++ [argsR ⟨twiceNode k g.ns.length x.n, .slice (some ⟨g4, 0, none⟩) x.n.args.length c4, x.vl⟩], by omega, by go_num, (List.length_set ..).trans HDL2.out, ?_, (hDD.out.more _).set _ _ (by simp) (hDD.out.lab x (List.mem_of_getElem? HX.out)), ?_⟩
                    · show _ = _
                      rw [List.map_set]
                      exact HHS.out
                    · refine Mem.nodeArgs HX.out HDL2.out ?_
                      exact (by have h := HM4.out.setRow 1 (by rw [nodesR_len HDL2.out]; rfl) (i * 5 + 2) (.slice (some ⟨g4, 0, none⟩) x.n.args.length c4); rw [HZN.out hz]; exact h)
                  case measure => simp [intOf]; omega
              · have HZN : Hid (otherFirst k g.ns.length x.n.args = x.n.args) := other_same k g.ns.length x.n.args (.inl (List.length_eq_zero_iff.1 (by omega)))
                go_wp2_with (at_builtin; refine wpList_append_row _ rfl _ _ 30 rfl 3 ji _ 1 8 Try.underlying30 L1.out L2.out L3.out L4.out rfl (by omega) (.slice (some ⟨wr.heap.size, 0, none⟩) 0 0) 0 [] rfl (HMB.out.row 0 rfl) aa x.n.args.length cx (x.n.args.map (Value.int .i64)) rfl (RA.out.below BB.out) (fun u hu => by obtain ⟨z, _, rfl⟩ := List.mem_map.1 hu; rfl) (by unfold maxLen; omega) (by omega) ?_; intro v' w4 hown4 hgrow4 hat4; simp only [Nat.zero_add, List.nil_append] at hown4; have M4 := HMB.out.grow 0 rfl hgrow4 hown4 hat4; obtain ⟨a4, c4, rfl, _⟩ := M4.val 0 rfl; have HM4 := Tre.hid M4; clear M4 hown4 hgrow4 hat4 p2 C3 p0 C2; have p0 : w4.cell? ⟨B, 0, none⟩ = some (.slice (some ⟨gN, 0, none⟩) (g.ns.length + 1) cN) := HM4.out.cell 3 rfl 0 rfl; have C2 := HM4.out.cellAt 1 (by rw [nodesR_len HDL2.out]; rfl) (i * 5 + 2) ((cells_at dd i 2 x HX.out (by omega)).trans rfl); rw [ea] at C2; have F2 := HM4.out.freeAt 1 (by rw [nodesR_len HDL2.out]; rfl) (i * 5 + 2); clear ea)
                go_roundw
                case rel =>
                  refine ⟨i + 1, dd.set i ⟨twiceNode k g.ns.length x.n, .slice a4 x.n.args.length c4, x.vl⟩, ll ++ [argsR ⟨twiceNode k g.ns.length x.n, .slice a4 x.n.args.length c4, x.vl⟩], by omega, by go_num, (List.length_set ..).trans HDL2.out, ?_, (hDD.out.more _).set _ _ (by simp) (hDD.out.lab x (List.mem_of_getElem? HX.out)), ?_⟩
                  · show _ = _
                    rw [List.map_set]
                    exact HHS.out
                  · refine Mem.nodeArgs HX.out HDL2.out ?_
                    exact (by have h := HM4.out.setRow 1 (by rw [nodesR_len HDL2.out]; rfl) (i * 5 + 2) (.slice a4 x.n.args.length c4); rw [HZN.out]; exact h)
                case measure => simp [intOf]; omega
            · have e : i = g.ns.length + 1 := by omega
              have h1 := hH.out
              rw [e, ← HNS.out, half_all] at h1
              have hnd : (⟨ds.map NodeV.n, ((turnAt g.ns.length b r : Nat) : Int)⟩ : Tre.Graph).nd k = d.n := by
                unfold Graph.nd
                simp only [List.getD_eq_getElem?_getD, List.getElem?_map, HDK.out, Option.map_some, Option.getD_some]
              have h2 : dd.map NodeV.n = ((⟨ds.map NodeV.n, ((turnAt g.ns.length b r : Nat) : Int)⟩ : Tre.Graph).twice k).ns := by
                unfold Graph.twice
                simp only [hnd, HNL.out]
                rw [h1, List.map_append, List.map_append, List.map_append]
                rfl
              have NH : NodesAt wr (some ⟨gN, 0, none⟩) (dd.map NodeV.n) := nodesAt_of (c := cN) (by have h := hI.out.at_ 0 rfl; rw [← HDL2.out] at h; exact h) (hDD.out.val hI.out.below (hI.out.at_ 1 rfl))
              rw [h2] at NH
              have hlen : ((⟨ds.map NodeV.n, ((turnAt g.ns.length b r : Nat) : Int)⟩ : Tre.Graph).twice k).ns.length = g.ns.length + 1 := by rw [Graph.twice_len, HNL.out]
              have hkd : k < (⟨ds.map NodeV.n, ((turnAt g.ns.length b r : Nat) : Int)⟩ : Tre.Graph).ns.length := by rw [HNL.out]; exact hkl
              have hw2 := Graph.twice_weight hkd
              have hs := (HTU.out.same CG.out).trans (Graph.twice_same hkd (by rw [HNL.out]; omega) (HTU.out.check CG.out) (by rw [hnd]; exact HFR.out))
              have C := same_any a (some ⟨gN, 0, none⟩) ca cN g _ wr (HG.out.below hI.out.below) NH (by omega) (by omega) (HM.out.below hI.out.below)
              rw [sameB_true hs, hlen, HR.out] at C
              have HC := Tre.hid C
              obtain ⟨g0, g1⟩ := hI.out.two 3 rfl
              clear C NH h1 h2 hnd hlen hkd hw2 hs e
              go_wp2_with fail
              refine HC.out.mono ?_
              rintro e w9 ⟨rfl, b9⟩
              have HM9 := Tre.hid (hI.out.quiet b9)
              clear b9
              go_wp2_with fail
              go_ret
              exact ⟨rfl, HM9.out.below⟩
        · rw [ko] at C4
          clear ko
          go_wp2_with fail
          go_ret
          exact ⟨rfl, HM5.out.below⟩
end Go.Proofs.Ytgngnkajjldnlaa.gr
