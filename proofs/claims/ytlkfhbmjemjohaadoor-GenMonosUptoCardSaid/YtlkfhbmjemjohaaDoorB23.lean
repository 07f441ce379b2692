/- inst.Is, where one graph goes onto the other one's least. -/
import Derived.Test.YtlkfhbmjemjohaaDoorB22
import Derived.IntWalk
namespace Go.Proofs.YtlkfhbmjemjohaaDoor.gr
open Go.RowKit Go.Shelf Go.Maps Go.Tre lex
set_option maxRecDepth 100000 in
set_option maxHeartbeats 8000000 in
theorem is_yes (b1 o1 cg : Nat) (bh : Option Addr) (ch : Nat) (g h : Tre.Graph) (r : Nat → Nat) (w : World) (hg : NodesAt w (some ⟨b1, o1, none⟩) g.ns) (hh : NodesAt w bh h.ns) (wg : g.weight ≤ 2097152) (wh : h.weight ≤ 2097152) (hm : MaxAt w) (ht : TabAt w)
    (c0 : g.checkC = 0) (c1 : h.checkC = 0) (hom : Hom g h.leastG r) (hP : left g h.leastG (fun _ => none) ≤ 4398046511104) :
    Calls Tryd.prog 11 #[.agg #[.slice (some ⟨b1, o1, none⟩) g.ns.length cg, .int .i64 g.root], .agg #[.slice bh h.ns.length ch, .int .i64 h.root]] w fun e w' => e = .returned (.bool true) ∧ Below w.heap.size w w' := by
  have M := ((Mem.nil w).allocR #[.slice (some ⟨b1, o1, none⟩) g.ns.length cg, .int .i64 g.root] 24).allocR #[.slice bh h.ns.length ch, .int .i64 h.root] 24
  simp only [heapSize_alloc] at M
  have CK := check_any (some ⟨b1, o1, none⟩) cg g _ (hg.below M.below) (by omega) (hm.below M.below)
  rw [c0] at CK
  have HCK := Tre.hid CK
  have HG := Tre.hid hg
  have HH := Tre.hid hh
  have HX := Tre.hid hm
  have HT := Tre.hid ht
  have C1 := Tre.hid c1
  have OG := Tre.hid (Graph.ok_of c0)
  have OL := Tre.hid (Graph.ok_of (least_ok c1))
  have HOM := Tre.hid hom
  have HP := Tre.hid hP
  have HM0 := Tre.hid M
  have r0 : Hid (g.root = ((g.root.toNat : Nat) : Int)) := by have := OG.out.root0; show _ = _; omega
  have HR0 : Hid (r g.root.toNat = 0) := by show _ = _; rw [hom.root]; rfl
  clear hg hh hm ht M c0 c1 hom hP CK
  go_enter Tryd.func11, Tryd.ntmps11
  go_wp2_with fail
  refine HCK.out.mono ?_
  rintro e w1 ⟨rfl, q1⟩
  have M1 := HM0.out.quiet q1
  obtain ⟨h0, h1⟩ := M1.two 0 rfl
  have HM1 := Tre.hid M1
  clear q1 M1
  go_wp2_with fail
  have CK2 := check_any bh ch h w1 (HH.out.below HM1.out.below) (by omega) (HX.out.below HM1.out.below)
  rw [C1.out] at CK2
  have HCK2 := Tre.hid CK2
  clear CK2
  refine HCK2.out.mono ?_
  rintro e w2 ⟨rfl, q2⟩
  have HM2 := Tre.hid (HM1.out.quiet q2)
  clear q2 h0 h1
  go_upto_region 3 with fail
  go_cut [5] (fun s5 wx => ∃ (bM bm bw b2 cL : Nat) (dh : List NodeV), s5 = .pointer (some ⟨bM, 0, none⟩) ∧ Hid (dh.map NodeV.n = h.leastG.ns) ∧ Hid (Mem w wx [cellsR bM 64 #[.slice (some ⟨b1, o1, none⟩) g.ns.length cg, .int .i64 g.root, .slice (some ⟨b2, 0, none⟩) dh.length cL, .int .i64 0, .map (some bm), .map (some bw), .slice none 0 0], mapR Tryd.prog 66 ep (fun _ : Unit => .bool true) bm 0 (fun _ => none), mapR Tryd.prog 3 en en bw 0 (fun _ => none), nodesR (.slice (some ⟨b2, 0, none⟩) dh.length cL) dh, kidsR dh, cellsR (w.heap.size + 1) 24 #[.slice bh h.ns.length ch, .int .i64 h.root], cellsR w.heap.size 24 #[.slice (some ⟨b1, o1, none⟩) g.ns.length cg, .int .i64 g.root]]))
  case first =>
    refine wp_region_keep (S := (fun w' => w'.cell? ⟨w.heap.size, 0, none⟩ = some (.slice (some ⟨b1, o1, none⟩) g.ns.length cg) ∧ w'.cell? ⟨w.heap.size, 1, none⟩ = some (.int .i64 g.root) ∧ w'.cell? ⟨w.heap.size + 1, 0, none⟩ = some (.slice bh h.ns.length ch) ∧ w'.cell? ⟨w.heap.size + 1, 1, none⟩ = some (.int .i64 h.root))) [] (by kernel_rfl) ?_ (fun hH0 => ?_)
    · exact ⟨HM2.out.drew.cell 1 rfl 0 rfl, HM2.out.drew.cell 1 rfl 1 rfl, HM2.out.drew.cell 0 rfl 0 rfl, HM2.out.drew.cell 0 rfl 1 rfl⟩
    have H0 := Tre.hid HM2.out.drew
    generalize hq : World.drew _ = wq0 at H0 hH0 ⊢
    clear hq HM2
    refine lTake (i := 0) (some 15) (v := ?_) (by rfl) (by kernel_rfl) (by kernel_rfl) (by kernel_rfl) (by kernel_rfl) (by kernel_rfl) (fun _ _ _ h => h) (by rfl) ?_ hH0 ?_
    rotate_left
    · intro w hSw; (try dsimp only at hSw); simp only [List.getElem?_toArray, List.getElem?_cons_zero, Option.map_some, Option.some.injEq]; (first | (go_simp; done) | (go_simp; with_reducible rfl))
    try simp only [Act.put, List.setIfInBounds_toArray, List.set_cons_zero, List.set_cons_succ]
    refine lTake (i := 1) (some 16) (v := ?_) (by rfl) (by kernel_rfl) (by kernel_rfl) (by kernel_rfl) (by kernel_rfl) (by kernel_rfl) (fun _ _ _ h => h) (by rfl) ?_ hH0 ?_
    rotate_left
    · intro w hSw; (try dsimp only at hSw); simp only [List.getElem?_toArray, List.getElem?_cons_succ, List.getElem?_cons_zero, Option.map_some, Option.some.injEq]; (first | (go_simp; done) | (go_simp; with_reducible rfl))
    try simp only [Act.put, List.setIfInBounds_toArray, List.set_cons_zero, List.set_cons_succ]
    refine lThree 2 3 4 (by kernel_rfl) (LStep.op (fun K hK => ?_)) (LStep.op (fun K hK => ?_)) (LStep.op (fun K hK => ?_))
    · -- 17
      go_simp
      refine (least_any bh ch h _ (HH.out.below H0.out.below) wh (HX.out.below H0.out.below) (HT.out.below H0.out.below) C1.out).mono ?_
      rintro e wq1 ⟨vL, dh, rfl, hdh, mq⟩
      have H1 := Tre.hid (H0.out.call mq)
      have HDH := Tre.hid hdh
      have hd0 : 0 < dh.length := by have h1 := congrArg List.length hdh; rw [List.length_map] at h1; have h2 := OL.out.root1; omega
      obtain ⟨d0, hd0'⟩ : ∃ d, dh[0]? = some d := ⟨_, List.getElem?_eq_getElem hd0⟩
      obtain ⟨aL, cL, rfl, _⟩ := H1.out.val 0 rfl
      obtain ⟨b2, rfl, _, _, _⟩ := H1.out.getRow 0 rfl (0 * 5 + 0) ((cells_at dh 0 0 d0 hd0' (by omega)).trans rfl)
      clear mq hdh hd0 hd0'
      (try dsimp only)
      refine hK.out _ _ ?_ (fun hH1 => ?_)
      · exact ⟨H1.out.cell 3 rfl 0 rfl, H1.out.cell 3 rfl 1 rfl, H1.out.cell 2 rfl 0 rfl, H1.out.cell 2 rfl 1 rfl⟩
      clear hK K hH0
      try simp only [Act.put, List.setIfInBounds_toArray, List.set_cons_zero, List.set_cons_succ]
      refine lTwo 3 4 (by kernel_rfl) (LStep.op (fun K hK => ?_)) (LStep.op (fun K hK => ?_))
      · -- 18
        have hmm := @run_makeMap Tryd.prog
        go_simp
        clear hmm
        have H2 := Tre.hid (H1.out.allocMap Tryd.prog 66 ep (fun _ : Unit => .bool true))
        generalize hb : wq1.heap.size = bm at H2 ⊢
        generalize hw : wq1.alloc (.map #[] 0) = wq2 at H2 ⊢
        clear hb hw
        refine hK.out _ _ ?_ (fun hH2 => ?_)
        · exact ⟨H2.out.cell 4 rfl 0 rfl, H2.out.cell 4 rfl 1 rfl, H2.out.cell 3 rfl 0 rfl, H2.out.cell 3 rfl 1 rfl⟩
        clear hK K hH1
        try simp only [Act.put, List.setIfInBounds_toArray, List.set_cons_zero, List.set_cons_succ]
        refine lOne 4 (by kernel_rfl) (LStep.op (fun K hK => ?_))
        have hmm := @run_makeMap Tryd.prog
        go_simp
        clear hmm
        have H3 := Tre.hid (H2.out.allocMap Tryd.prog 3 en en)
        generalize hb : wq2.heap.size = bw at H3 ⊢
        generalize hw : wq2.alloc (.map #[] 0) = wq3 at H3 ⊢
        clear hb hw
        refine hK.out _ _ ?_ (fun hH3 => ?_)
        · exact ⟨H3.out.cell 5 rfl 0 rfl, H3.out.cell 5 rfl 1 rfl, H3.out.cell 4 rfl 0 rfl, H3.out.cell 4 rfl 1 rfl⟩
        clear hK K hH2
        try simp only [Act.put, List.setIfInBounds_toArray, List.set_cons_zero, List.set_cons_succ]
        refine lPure (i := 5) (some 20) (v := ?_) (by rfl) (by kernel_rfl) (by kernel_rfl) (by kernel_rfl) (by kernel_rfl) (fun _ _ _ h => h) (by rfl) ?_ (keep_of hH3) ?_
        rotate_left
        · intro w; simp only [List.getElem?_toArray, List.getElem?_cons_succ, List.getElem?_cons_zero, Option.map_some, Option.some.injEq]; (first | (go_simp; done) | (go_simp; with_reducible rfl))
        try simp only [Act.put, List.setIfInBounds_toArray, List.set_cons_zero, List.set_cons_succ]
        refine lOne 6 (by kernel_rfl) (LStep.op (fun K hK => ?_))
        go_simp
        have H4 := Tre.hid (H3.out.allocR #[.slice (some ⟨b1, o1, none⟩) g.ns.length cg, .int .i64 g.root, .slice (some ⟨b2, 0, none⟩) dh.length cL, .int .i64 0, .map (some bm), .map (some bw), .slice none 0 0] 64)
        generalize hb : wq3.heap.size = bM at H4 ⊢
        generalize hw : wq3.alloc (.cells #[.slice (some ⟨b1, o1, none⟩) g.ns.length cg, .int .i64 g.root, .slice (some ⟨b2, 0, none⟩) dh.length cL, .int .i64 0, .map (some bm), .map (some bw), .slice none 0 0] 64) = wq4 at H4 ⊢
        clear hb hw
        refine hK.out _ _ ?_ (fun hH4 => ?_)
        · exact ⟨H4.out.cell 6 rfl 0 rfl, H4.out.cell 6 rfl 1 rfl, H4.out.cell 5 rfl 0 rfl, H4.out.cell 5 rfl 1 rfl⟩
        clear hK K hH3
        try simp only [Act.put, List.setIfInBounds_toArray, List.set_cons_zero, List.set_cons_succ]
        refine lPure (i := 7) (some 5) (v := ?_) (by rfl) (by kernel_rfl) (by kernel_rfl) (by kernel_rfl) (by kernel_rfl) (fun _ _ _ h => h) (by rfl) ?_ (keep_of hH4) ?_
        rotate_left
        · intro w; simp only [List.getElem?_toArray, List.getElem?_cons_succ, List.getElem?_cons_zero, Option.map_some, Option.some.injEq]; (first | (go_simp; done) | (go_simp; with_reducible rfl))
        try simp only [Act.put, List.setIfInBounds_toArray, List.set_cons_zero, List.set_cons_succ]
        refine lDone (by kernel_rfl) ?_
        clear hH4
        go_wp2_with fail
        go_meet
        exact ⟨bM, bm, bw, b2, cL, dh, rfl, HDH.out, (((H4.out.front 1 rfl).front 2 rfl).front 2 rfl)⟩
      · -- 19
        have hmm := @run_makeMap Tryd.prog
        go_simp
        clear hmm
        have H2 := Tre.hid (H1.out.allocMap Tryd.prog 3 en en)
        generalize hb : wq1.heap.size = bw at H2 ⊢
        generalize hw : wq1.alloc (.map #[] 0) = wq2 at H2 ⊢
        clear hb hw
        refine hK.out _ _ ?_ (fun hH5 => ?_)
        · exact ⟨H2.out.cell 4 rfl 0 rfl, H2.out.cell 4 rfl 1 rfl, H2.out.cell 3 rfl 0 rfl, H2.out.cell 3 rfl 1 rfl⟩
        clear hK K hH1
        try simp only [Act.put, List.setIfInBounds_toArray, List.set_cons_zero, List.set_cons_succ]
        refine lOne 3 (by kernel_rfl) (LStep.op (fun K hK => ?_))
        have hmm := @run_makeMap Tryd.prog
        go_simp
        clear hmm
        have H3 := Tre.hid (H2.out.allocMap Tryd.prog 66 ep (fun _ : Unit => .bool true))
        generalize hb : wq2.heap.size = bm at H3 ⊢
        generalize hw : wq2.alloc (.map #[] 0) = wq3 at H3 ⊢
        clear hb hw
        refine hK.out _ _ ?_ (fun hH6 => ?_)
        · exact ⟨H3.out.cell 5 rfl 0 rfl, H3.out.cell 5 rfl 1 rfl, H3.out.cell 4 rfl 0 rfl, H3.out.cell 4 rfl 1 rfl⟩
        clear hK K hH5
        try simp only [Act.put, List.setIfInBounds_toArray, List.set_cons_zero, List.set_cons_succ]
        refine lPure (i := 5) (some 20) (v := ?_) (by rfl) (by kernel_rfl) (by kernel_rfl) (by kernel_rfl) (by kernel_rfl) (fun _ _ _ h => h) (by rfl) ?_ (keep_of hH6) ?_
        rotate_left
        · intro w; simp only [List.getElem?_toArray, List.getElem?_cons_succ, List.getElem?_cons_zero, Option.map_some, Option.some.injEq]; (first | (go_simp; done) | (go_simp; with_reducible rfl))
        try simp only [Act.put, List.setIfInBounds_toArray, List.set_cons_zero, List.set_cons_succ]
        refine lOne 6 (by kernel_rfl) (LStep.op (fun K hK => ?_))
        go_simp
        have H4 := Tre.hid (H3.out.allocR #[.slice (some ⟨b1, o1, none⟩) g.ns.length cg, .int .i64 g.root, .slice (some ⟨b2, 0, none⟩) dh.length cL, .int .i64 0, .map (some bm), .map (some bw), .slice none 0 0] 64)
        generalize hb : wq3.heap.size = bM at H4 ⊢
        generalize hw : wq3.alloc (.cells #[.slice (some ⟨b1, o1, none⟩) g.ns.length cg, .int .i64 g.root, .slice (some ⟨b2, 0, none⟩) dh.length cL, .int .i64 0, .map (some bm), .map (some bw), .slice none 0 0] 64) = wq4 at H4 ⊢
        clear hb hw
        refine hK.out _ _ ?_ (fun hH7 => ?_)
        · exact ⟨H4.out.cell 6 rfl 0 rfl, H4.out.cell 6 rfl 1 rfl, H4.out.cell 5 rfl 0 rfl, H4.out.cell 5 rfl 1 rfl⟩
        clear hK K hH6
        try simp only [Act.put, List.setIfInBounds_toArray, List.set_cons_zero, List.set_cons_succ]
        refine lPure (i := 7) (some 5) (v := ?_) (by rfl) (by kernel_rfl) (by kernel_rfl) (by kernel_rfl) (by kernel_rfl) (fun _ _ _ h => h) (by rfl) ?_ (keep_of hH7) ?_
        rotate_left
        · intro w; simp only [List.getElem?_toArray, List.getElem?_cons_succ, List.getElem?_cons_zero, Option.map_some, Option.some.injEq]; (first | (go_simp; done) | (go_simp; with_reducible rfl))
        try simp only [Act.put, List.setIfInBounds_toArray, List.set_cons_zero, List.set_cons_succ]
        refine lDone (by kernel_rfl) ?_
        clear hH7
        go_wp2_with fail
        go_meet
        exact ⟨bM, bm, bw, b2, cL, dh, rfl, HDH.out, H4.out⟩
    · -- 18
      have hmm := @run_makeMap Tryd.prog
      go_simp
      clear hmm
      have H1 := Tre.hid (H0.out.allocMap Tryd.prog 66 ep (fun _ : Unit => .bool true))
      generalize hb : wq0.heap.size = bm at H1 ⊢
      generalize hw : wq0.alloc (.map #[] 0) = wq1 at H1 ⊢
      clear hb hw
      refine hK.out _ _ ?_ (fun hH8 => ?_)
      · exact ⟨H1.out.cell 2 rfl 0 rfl, H1.out.cell 2 rfl 1 rfl, H1.out.cell 1 rfl 0 rfl, H1.out.cell 1 rfl 1 rfl⟩
      clear hK K hH0
      try simp only [Act.put, List.setIfInBounds_toArray, List.set_cons_zero, List.set_cons_succ]
      refine lTwo 2 4 (by kernel_rfl) (LStep.op (fun K hK => ?_)) (LStep.op (fun K hK => ?_))
      · -- 17
        go_simp
        refine (least_any bh ch h _ (HH.out.below H1.out.below) wh (HX.out.below H1.out.below) (HT.out.below H1.out.below) C1.out).mono ?_
        rintro e wq2 ⟨vL, dh, rfl, hdh, mq⟩
        have H2 := Tre.hid (H1.out.call mq)
        have HDH := Tre.hid hdh
        have hd0 : 0 < dh.length := by have h1 := congrArg List.length hdh; rw [List.length_map] at h1; have h2 := OL.out.root1; omega
        obtain ⟨d0, hd0'⟩ : ∃ d, dh[0]? = some d := ⟨_, List.getElem?_eq_getElem hd0⟩
        obtain ⟨aL, cL, rfl, _⟩ := H2.out.val 0 rfl
        obtain ⟨b2, rfl, _, _, _⟩ := H2.out.getRow 0 rfl (0 * 5 + 0) ((cells_at dh 0 0 d0 hd0' (by omega)).trans rfl)
        clear mq hdh hd0 hd0'
        (try dsimp only)
        refine hK.out _ _ ?_ (fun hH9 => ?_)
        · exact ⟨H2.out.cell 4 rfl 0 rfl, H2.out.cell 4 rfl 1 rfl, H2.out.cell 3 rfl 0 rfl, H2.out.cell 3 rfl 1 rfl⟩
        clear hK K hH8
        try simp only [Act.put, List.setIfInBounds_toArray, List.set_cons_zero, List.set_cons_succ]
        refine lOne 4 (by kernel_rfl) (LStep.op (fun K hK => ?_))
        have hmm := @run_makeMap Tryd.prog
        go_simp
        clear hmm
        have H3 := Tre.hid (H2.out.allocMap Tryd.prog 3 en en)
        generalize hb : wq2.heap.size = bw at H3 ⊢
        generalize hw : wq2.alloc (.map #[] 0) = wq3 at H3 ⊢
        clear hb hw
        refine hK.out _ _ ?_ (fun hH10 => ?_)
        · exact ⟨H3.out.cell 5 rfl 0 rfl, H3.out.cell 5 rfl 1 rfl, H3.out.cell 4 rfl 0 rfl, H3.out.cell 4 rfl 1 rfl⟩
        clear hK K hH9
        try simp only [Act.put, List.setIfInBounds_toArray, List.set_cons_zero, List.set_cons_succ]
        refine lPure (i := 5) (some 20) (v := ?_) (by rfl) (by kernel_rfl) (by kernel_rfl) (by kernel_rfl) (by kernel_rfl) (fun _ _ _ h => h) (by rfl) ?_ (keep_of hH10) ?_
        rotate_left
        · intro w; simp only [List.getElem?_toArray, List.getElem?_cons_succ, List.getElem?_cons_zero, Option.map_some, Option.some.injEq]; (first | (go_simp; done) | (go_simp; with_reducible rfl))
        try simp only [Act.put, List.setIfInBounds_toArray, List.set_cons_zero, List.set_cons_succ]
        refine lOne 6 (by kernel_rfl) (LStep.op (fun K hK => ?_))
        go_simp
        have H4 := Tre.hid (H3.out.allocR #[.slice (some ⟨b1, o1, none⟩) g.ns.length cg, .int .i64 g.root, .slice (some ⟨b2, 0, none⟩) dh.length cL, .int .i64 0, .map (some bm), .map (some bw), .slice none 0 0] 64)
        generalize hb : wq3.heap.size = bM at H4 ⊢
        generalize hw : wq3.alloc (.cells #[.slice (some ⟨b1, o1, none⟩) g.ns.length cg, .int .i64 g.root, .slice (some ⟨b2, 0, none⟩) dh.length cL, .int .i64 0, .map (some bm), .map (some bw), .slice none 0 0] 64) = wq4 at H4 ⊢
        clear hb hw
        refine hK.out _ _ ?_ (fun hH11 => ?_)
        · exact ⟨H4.out.cell 6 rfl 0 rfl, H4.out.cell 6 rfl 1 rfl, H4.out.cell 5 rfl 0 rfl, H4.out.cell 5 rfl 1 rfl⟩
        clear hK K hH10
        try simp only [Act.put, List.setIfInBounds_toArray, List.set_cons_zero, List.set_cons_succ]
        refine lPure (i := 7) (some 5) (v := ?_) (by rfl) (by kernel_rfl) (by kernel_rfl) (by kernel_rfl) (by kernel_rfl) (fun _ _ _ h => h) (by rfl) ?_ (keep_of hH11) ?_
        rotate_left
        · intro w; simp only [List.getElem?_toArray, List.getElem?_cons_succ, List.getElem?_cons_zero, Option.map_some, Option.some.injEq]; (first | (go_simp; done) | (go_simp; with_reducible rfl))
        try simp only [Act.put, List.setIfInBounds_toArray, List.set_cons_zero, List.set_cons_succ]
        refine lDone (by kernel_rfl) ?_
        clear hH11
        go_wp2_with fail
        go_meet
        exact ⟨bM, bm, bw, b2, cL, dh, rfl, HDH.out, (((((H4.out.front 3 rfl).front 3 rfl).front 3 rfl).front 4 rfl).front 4 rfl)⟩
      · -- 19
        have hmm := @run_makeMap Tryd.prog
        go_simp
        clear hmm
        have H2 := Tre.hid (H1.out.allocMap Tryd.prog 3 en en)
        generalize hb : wq1.heap.size = bw at H2 ⊢
        generalize hw : wq1.alloc (.map #[] 0) = wq2 at H2 ⊢
        clear hb hw
        refine hK.out _ _ ?_ (fun hH12 => ?_)
        · exact ⟨H2.out.cell 3 rfl 0 rfl, H2.out.cell 3 rfl 1 rfl, H2.out.cell 2 rfl 0 rfl, H2.out.cell 2 rfl 1 rfl⟩
        clear hK K hH8
        try simp only [Act.put, List.setIfInBounds_toArray, List.set_cons_zero, List.set_cons_succ]
        refine lOne 2 (by kernel_rfl) (LStep.op (fun K hK => ?_))
        go_simp
        refine (least_any bh ch h _ (HH.out.below H2.out.below) wh (HX.out.below H2.out.below) (HT.out.below H2.out.below) C1.out).mono ?_
        rintro e wq3 ⟨vL, dh, rfl, hdh, mq⟩
        have H3 := Tre.hid (H2.out.call mq)
        have HDH := Tre.hid hdh
        have hd0 : 0 < dh.length := by have h1 := congrArg List.length hdh; rw [List.length_map] at h1; have h2 := OL.out.root1; omega
        obtain ⟨d0, hd0'⟩ : ∃ d, dh[0]? = some d := ⟨_, List.getElem?_eq_getElem hd0⟩
        obtain ⟨aL, cL, rfl, _⟩ := H3.out.val 0 rfl
        obtain ⟨b2, rfl, _, _, _⟩ := H3.out.getRow 0 rfl (0 * 5 + 0) ((cells_at dh 0 0 d0 hd0' (by omega)).trans rfl)
        clear mq hdh hd0 hd0'
        (try dsimp only)
        refine hK.out _ _ ?_ (fun hH13 => ?_)
        · exact ⟨H3.out.cell 5 rfl 0 rfl, H3.out.cell 5 rfl 1 rfl, H3.out.cell 4 rfl 0 rfl, H3.out.cell 4 rfl 1 rfl⟩
        clear hK K hH12
        try simp only [Act.put, List.setIfInBounds_toArray, List.set_cons_zero, List.set_cons_succ]
        refine lPure (i := 5) (some 20) (v := ?_) (by rfl) (by kernel_rfl) (by kernel_rfl) (by kernel_rfl) (by kernel_rfl) (fun _ _ _ h => h) (by rfl) ?_ (keep_of hH13) ?_
        rotate_left
        · intro w; simp only [List.getElem?_toArray, List.getElem?_cons_succ, List.getElem?_cons_zero, Option.map_some, Option.some.injEq]; (first | (go_simp; done) | (go_simp; with_reducible rfl))
        try simp only [Act.put, List.setIfInBounds_toArray, List.set_cons_zero, List.set_cons_succ]
        refine lOne 6 (by kernel_rfl) (LStep.op (fun K hK => ?_))
        go_simp
        have H4 := Tre.hid (H3.out.allocR #[.slice (some ⟨b1, o1, none⟩) g.ns.length cg, .int .i64 g.root, .slice (some ⟨b2, 0, none⟩) dh.length cL, .int .i64 0, .map (some bm), .map (some bw), .slice none 0 0] 64)
        generalize hb : wq3.heap.size = bM at H4 ⊢
        generalize hw : wq3.alloc (.cells #[.slice (some ⟨b1, o1, none⟩) g.ns.length cg, .int .i64 g.root, .slice (some ⟨b2, 0, none⟩) dh.length cL, .int .i64 0, .map (some bm), .map (some bw), .slice none 0 0] 64) = wq4 at H4 ⊢
        clear hb hw
        refine hK.out _ _ ?_ (fun hH14 => ?_)
        · exact ⟨H4.out.cell 6 rfl 0 rfl, H4.out.cell 6 rfl 1 rfl, H4.out.cell 5 rfl 0 rfl, H4.out.cell 5 rfl 1 rfl⟩
        clear hK K hH13
        try simp only [Act.put, List.setIfInBounds_toArray, List.set_cons_zero, List.set_cons_succ]
        refine lPure (i := 7) (some 5) (v := ?_) (by rfl) (by kernel_rfl) (by kernel_rfl) (by kernel_rfl) (by kernel_rfl) (fun _ _ _ h => h) (by rfl) ?_ (keep_of hH14) ?_
        rotate_left
        · intro w; simp only [List.getElem?_toArray, List.getElem?_cons_succ, List.getElem?_cons_zero, Option.map_some, Option.some.injEq]; (first | (go_simp; done) | (go_simp; with_reducible rfl))
        try simp only [Act.put, List.setIfInBounds_toArray, List.set_cons_zero, List.set_cons_succ]
        refine lDone (by kernel_rfl) ?_
        clear hH14
        go_wp2_with fail
        go_meet
        exact ⟨bM, bm, bw, b2, cL, dh, rfl, HDH.out, (((((H4.out.front 2 rfl).front 2 rfl).front 3 rfl).front 4 rfl).front 4 rfl)⟩
    · -- 19
      have hmm := @run_makeMap Tryd.prog
      go_simp
      clear hmm
      have H1 := Tre.hid (H0.out.allocMap Tryd.prog 3 en en)
      generalize hb : wq0.heap.size = bw at H1 ⊢
      generalize hw : wq0.alloc (.map #[] 0) = wq1 at H1 ⊢
      clear hb hw
      refine hK.out _ _ ?_ (fun hH15 => ?_)
      · exact ⟨H1.out.cell 2 rfl 0 rfl, H1.out.cell 2 rfl 1 rfl, H1.out.cell 1 rfl 0 rfl, H1.out.cell 1 rfl 1 rfl⟩
      clear hK K hH0
      try simp only [Act.put, List.setIfInBounds_toArray, List.set_cons_zero, List.set_cons_succ]
      refine lTwo 2 3 (by kernel_rfl) (LStep.op (fun K hK => ?_)) (LStep.op (fun K hK => ?_))
      · -- 17
        go_simp
        refine (least_any bh ch h _ (HH.out.below H1.out.below) wh (HX.out.below H1.out.below) (HT.out.below H1.out.below) C1.out).mono ?_
        rintro e wq2 ⟨vL, dh, rfl, hdh, mq⟩
        have H2 := Tre.hid (H1.out.call mq)
        have HDH := Tre.hid hdh
        have hd0 : 0 < dh.length := by have h1 := congrArg List.length hdh; rw [List.length_map] at h1; have h2 := OL.out.root1; omega
        obtain ⟨d0, hd0'⟩ : ∃ d, dh[0]? = some d := ⟨_, List.getElem?_eq_getElem hd0⟩
        obtain ⟨aL, cL, rfl, _⟩ := H2.out.val 0 rfl
        obtain ⟨b2, rfl, _, _, _⟩ := H2.out.getRow 0 rfl (0 * 5 + 0) ((cells_at dh 0 0 d0 hd0' (by omega)).trans rfl)
        clear mq hdh hd0 hd0'
        (try dsimp only)
        refine hK.out _ _ ?_ (fun hH16 => ?_)
        · exact ⟨H2.out.cell 4 rfl 0 rfl, H2.out.cell 4 rfl 1 rfl, H2.out.cell 3 rfl 0 rfl, H2.out.cell 3 rfl 1 rfl⟩
        clear hK K hH15
        try simp only [Act.put, List.setIfInBounds_toArray, List.set_cons_zero, List.set_cons_succ]
        refine lOne 3 (by kernel_rfl) (LStep.op (fun K hK => ?_))
        have hmm := @run_makeMap Tryd.prog
        go_simp
        clear hmm
        have H3 := Tre.hid (H2.out.allocMap Tryd.prog 66 ep (fun _ : Unit => .bool true))
        generalize hb : wq2.heap.size = bm at H3 ⊢
        generalize hw : wq2.alloc (.map #[] 0) = wq3 at H3 ⊢
        clear hb hw
        refine hK.out _ _ ?_ (fun hH17 => ?_)
        · exact ⟨H3.out.cell 5 rfl 0 rfl, H3.out.cell 5 rfl 1 rfl, H3.out.cell 4 rfl 0 rfl, H3.out.cell 4 rfl 1 rfl⟩
        clear hK K hH16
        try simp only [Act.put, List.setIfInBounds_toArray, List.set_cons_zero, List.set_cons_succ]
        refine lPure (i := 5) (some 20) (v := ?_) (by rfl) (by kernel_rfl) (by kernel_rfl) (by kernel_rfl) (by kernel_rfl) (fun _ _ _ h => h) (by rfl) ?_ (keep_of hH17) ?_
        rotate_left
        · intro w; simp only [List.getElem?_toArray, List.getElem?_cons_succ, List.getElem?_cons_zero, Option.map_some, Option.some.injEq]; (first | (go_simp; done) | (go_simp; with_reducible rfl))
        try simp only [Act.put, List.setIfInBounds_toArray, List.set_cons_zero, List.set_cons_succ]
        refine lOne 6 (by kernel_rfl) (LStep.op (fun K hK => ?_))
        go_simp
        have H4 := Tre.hid (H3.out.allocR #[.slice (some ⟨b1, o1, none⟩) g.ns.length cg, .int .i64 g.root, .slice (some ⟨b2, 0, none⟩) dh.length cL, .int .i64 0, .map (some bm), .map (some bw), .slice none 0 0] 64)
        generalize hb : wq3.heap.size = bM at H4 ⊢
        generalize hw : wq3.alloc (.cells #[.slice (some ⟨b1, o1, none⟩) g.ns.length cg, .int .i64 g.root, .slice (some ⟨b2, 0, none⟩) dh.length cL, .int .i64 0, .map (some bm), .map (some bw), .slice none 0 0] 64) = wq4 at H4 ⊢
        clear hb hw
        refine hK.out _ _ ?_ (fun hH18 => ?_)
        · exact ⟨H4.out.cell 6 rfl 0 rfl, H4.out.cell 6 rfl 1 rfl, H4.out.cell 5 rfl 0 rfl, H4.out.cell 5 rfl 1 rfl⟩
        clear hK K hH17
        try simp only [Act.put, List.setIfInBounds_toArray, List.set_cons_zero, List.set_cons_succ]
        refine lPure (i := 7) (some 5) (v := ?_) (by rfl) (by kernel_rfl) (by kernel_rfl) (by kernel_rfl) (by kernel_rfl) (fun _ _ _ h => h) (by rfl) ?_ (keep_of hH18) ?_
        rotate_left
        · intro w; simp only [List.getElem?_toArray, List.getElem?_cons_succ, List.getElem?_cons_zero, Option.map_some, Option.some.injEq]; (first | (go_simp; done) | (go_simp; with_reducible rfl))
        try simp only [Act.put, List.setIfInBounds_toArray, List.set_cons_zero, List.set_cons_succ]
        refine lDone (by kernel_rfl) ?_
        clear hH18
        go_wp2_with fail
        go_meet
        exact ⟨bM, bm, bw, b2, cL, dh, rfl, HDH.out, (((((H4.out.front 3 rfl).front 3 rfl).front 4 rfl).front 4 rfl).front 4 rfl)⟩
      · -- 18
        have hmm := @run_makeMap Tryd.prog
        go_simp
        clear hmm
        have H2 := Tre.hid (H1.out.allocMap Tryd.prog 66 ep (fun _ : Unit => .bool true))
        generalize hb : wq1.heap.size = bm at H2 ⊢
        generalize hw : wq1.alloc (.map #[] 0) = wq2 at H2 ⊢
        clear hb hw
        refine hK.out _ _ ?_ (fun hH19 => ?_)
        · exact ⟨H2.out.cell 3 rfl 0 rfl, H2.out.cell 3 rfl 1 rfl, H2.out.cell 2 rfl 0 rfl, H2.out.cell 2 rfl 1 rfl⟩
        clear hK K hH15
        try simp only [Act.put, List.setIfInBounds_toArray, List.set_cons_zero, List.set_cons_succ]
        refine lOne 2 (by kernel_rfl) (LStep.op (fun K hK => ?_))
        go_simp
        refine (least_any bh ch h _ (HH.out.below H2.out.below) wh (HX.out.below H2.out.below) (HT.out.below H2.out.below) C1.out).mono ?_
        rintro e wq3 ⟨vL, dh, rfl, hdh, mq⟩
        have H3 := Tre.hid (H2.out.call mq)
        have HDH := Tre.hid hdh
        have hd0 : 0 < dh.length := by have h1 := congrArg List.length hdh; rw [List.length_map] at h1; have h2 := OL.out.root1; omega
        obtain ⟨d0, hd0'⟩ : ∃ d, dh[0]? = some d := ⟨_, List.getElem?_eq_getElem hd0⟩
        obtain ⟨aL, cL, rfl, _⟩ := H3.out.val 0 rfl
        obtain ⟨b2, rfl, _, _, _⟩ := H3.out.getRow 0 rfl (0 * 5 + 0) ((cells_at dh 0 0 d0 hd0' (by omega)).trans rfl)
        clear mq hdh hd0 hd0'
        (try dsimp only)
        refine hK.out _ _ ?_ (fun hH20 => ?_)
        · exact ⟨H3.out.cell 5 rfl 0 rfl, H3.out.cell 5 rfl 1 rfl, H3.out.cell 4 rfl 0 rfl, H3.out.cell 4 rfl 1 rfl⟩
        clear hK K hH19
        try simp only [Act.put, List.setIfInBounds_toArray, List.set_cons_zero, List.set_cons_succ]
        refine lPure (i := 5) (some 20) (v := ?_) (by rfl) (by kernel_rfl) (by kernel_rfl) (by kernel_rfl) (by kernel_rfl) (fun _ _ _ h => h) (by rfl) ?_ (keep_of hH20) ?_
        rotate_left
        · intro w; simp only [List.getElem?_toArray, List.getElem?_cons_succ, List.getElem?_cons_zero, Option.map_some, Option.some.injEq]; (first | (go_simp; done) | (go_simp; with_reducible rfl))
        try simp only [Act.put, List.setIfInBounds_toArray, List.set_cons_zero, List.set_cons_succ]
        refine lOne 6 (by kernel_rfl) (LStep.op (fun K hK => ?_))
        go_simp
        have H4 := Tre.hid (H3.out.allocR #[.slice (some ⟨b1, o1, none⟩) g.ns.length cg, .int .i64 g.root, .slice (some ⟨b2, 0, none⟩) dh.length cL, .int .i64 0, .map (some bm), .map (some bw), .slice none 0 0] 64)
        generalize hb : wq3.heap.size = bM at H4 ⊢
        generalize hw : wq3.alloc (.cells #[.slice (some ⟨b1, o1, none⟩) g.ns.length cg, .int .i64 g.root, .slice (some ⟨b2, 0, none⟩) dh.length cL, .int .i64 0, .map (some bm), .map (some bw), .slice none 0 0] 64) = wq4 at H4 ⊢
        clear hb hw
        refine hK.out _ _ ?_ (fun hH21 => ?_)
        · exact ⟨H4.out.cell 6 rfl 0 rfl, H4.out.cell 6 rfl 1 rfl, H4.out.cell 5 rfl 0 rfl, H4.out.cell 5 rfl 1 rfl⟩
        clear hK K hH20
        try simp only [Act.put, List.setIfInBounds_toArray, List.set_cons_zero, List.set_cons_succ]
        refine lPure (i := 7) (some 5) (v := ?_) (by rfl) (by kernel_rfl) (by kernel_rfl) (by kernel_rfl) (by kernel_rfl) (fun _ _ _ h => h) (by rfl) ?_ (keep_of hH21) ?_
        rotate_left
        · intro w; simp only [List.getElem?_toArray, List.getElem?_cons_succ, List.getElem?_cons_zero, Option.map_some, Option.some.injEq]; (first | (go_simp; done) | (go_simp; with_reducible rfl))
        try simp only [Act.put, List.setIfInBounds_toArray, List.set_cons_zero, List.set_cons_succ]
        refine lDone (by kernel_rfl) ?_
        clear hH21
        go_wp2_with fail
        go_meet
        exact ⟨bM, bm, bw, b2, cL, dh, rfl, HDH.out, (((((H4.out.front 2 rfl).front 2 rfl).front 4 rfl).front 4 rfl).front 4 rfl)⟩
  case rest =>
    obtain ⟨bM, bm, bw, b2, cL, dh, rfl, HDH, HC⟩ := hcut
    go_wp2_with fail
    refine wp_region_keep (S := (fun w' => w'.cell? ⟨w.heap.size, 1, none⟩ = some (.int .i64 g.root) ∧ w'.cell? ⟨bM, 3, none⟩ = some (.int .i64 0))) [12] (by kernel_rfl) ?_ (fun hH0 => ?_)
    · exact ⟨HC.out.drew.cell 6 rfl 1 rfl, HC.out.drew.cell 0 rfl 3 rfl⟩
    have H0 := Tre.hid HC.out.drew
    generalize hq : World.drew _ = wq0 at H0 hH0 ⊢
    clear hq HC
    refine lPure (i := 0) (some 22) (v := ?_) (by rfl) (by kernel_rfl) (by kernel_rfl) (by kernel_rfl) (by kernel_rfl) (fun _ _ _ h => h) (by rfl) ?_ (keep_of hH0) ?_
    rotate_left
    · intro w; simp only [List.getElem?_toArray, List.getElem?_cons_zero, Option.map_some, Option.some.injEq]; (first | (go_simp; done) | (go_simp; with_reducible rfl))
    try simp only [Act.put, List.setIfInBounds_toArray, List.set_cons_zero, List.set_cons_succ]
    refine lPure (i := 1) (some 23) (v := ?_) (by rfl) (by kernel_rfl) (by kernel_rfl) (by kernel_rfl) (by kernel_rfl) (fun _ _ _ h => h) (by rfl) ?_ (keep_of hH0) ?_
    rotate_left
    · intro w; simp only [List.getElem?_toArray, List.getElem?_cons_succ, List.getElem?_cons_zero, Option.map_some, Option.some.injEq]; (first | (go_simp; done) | (go_simp; with_reducible rfl))
    try simp only [Act.put, List.setIfInBounds_toArray, List.set_cons_zero, List.set_cons_succ]
    refine lPure (i := 3) (some 25) (v := ?_) (by rfl) (by kernel_rfl) (by kernel_rfl) (by kernel_rfl) (by kernel_rfl) (fun _ _ _ h => h) (by rfl) ?_ (keep_of hH0) ?_
    rotate_left
    · intro w; simp only [List.getElem?_toArray, List.getElem?_cons_succ, List.getElem?_cons_zero, Option.map_some, Option.some.injEq]; (first | (go_simp; done) | (go_simp; with_reducible rfl))
    try simp only [Act.put, List.setIfInBounds_toArray, List.set_cons_zero, List.set_cons_succ]
    refine lPure (i := 4) (some 26) (v := ?_) (by rfl) (by kernel_rfl) (by kernel_rfl) (by kernel_rfl) (by kernel_rfl) (fun _ _ _ h => h) (by rfl) ?_ (keep_of hH0) ?_
    rotate_left
    · intro w; simp only [List.getElem?_toArray, List.getElem?_cons_succ, List.getElem?_cons_zero, Option.map_some, Option.some.injEq]; (first | (go_simp; done) | (go_simp; with_reducible rfl))
    try simp only [Act.put, List.setIfInBounds_toArray, List.set_cons_zero, List.set_cons_succ]
    refine lPure (i := 5) (some 27) (v := ?_) (by rfl) (by kernel_rfl) (by kernel_rfl) (by kernel_rfl) (by kernel_rfl) (fun _ _ _ h => h) (by rfl) ?_ (keep_of hH0) ?_
    rotate_left
    · intro w; simp only [List.getElem?_toArray, List.getElem?_cons_succ, List.getElem?_cons_zero, Option.map_some, Option.some.injEq]; (first | (go_simp; done) | (go_simp; with_reducible rfl))
    try simp only [Act.put, List.setIfInBounds_toArray, List.set_cons_zero, List.set_cons_succ]
    refine lPure (i := 6) (some 28) (v := ?_) (by rfl) (by kernel_rfl) (by kernel_rfl) (by kernel_rfl) (by kernel_rfl) (fun _ _ _ h => h) (by rfl) ?_ (keep_of hH0) ?_
    rotate_left
    · intro w; simp only [List.getElem?_toArray, List.getElem?_cons_succ, List.getElem?_cons_zero, Option.map_some, Option.some.injEq]; (first | (go_simp; done) | (go_simp; with_reducible rfl))
    try simp only [Act.put, List.setIfInBounds_toArray, List.set_cons_zero, List.set_cons_succ]
    refine lTake (i := 2) (some 24) (v := ?_) (by rfl) (by kernel_rfl) (by kernel_rfl) (by kernel_rfl) (by kernel_rfl) (by kernel_rfl) (fun _ _ _ h => h) (by rfl) ?_ hH0 ?_
    rotate_left
    · intro w hSw; (try dsimp only at hSw); simp only [List.getElem?_toArray, List.getElem?_cons_succ, List.getElem?_cons_zero, Option.map_some, Option.some.injEq]; (first | (go_simp; done) | (go_simp; with_reducible rfl))
    try simp only [Act.put, List.setIfInBounds_toArray, List.set_cons_zero, List.set_cons_succ]
    refine lTake (i := 7) (some 29) (v := ?_) (by rfl) (by kernel_rfl) (by kernel_rfl) (by kernel_rfl) (by kernel_rfl) (by kernel_rfl) (fun _ _ _ h => h) (by rfl) ?_ hH0 ?_
    rotate_left
    · intro w hSw; (try dsimp only at hSw); simp only [List.getElem?_toArray, List.getElem?_cons_succ, List.getElem?_cons_zero, Option.map_some, Option.some.injEq]; (first | (go_simp; done) | (go_simp; with_reducible rfl))
    try simp only [Act.put, List.setIfInBounds_toArray, List.set_cons_zero, List.set_cons_succ]
    refine lPure (i := 8) (some 30) (v := ?_) (by rfl) (by kernel_rfl) (by kernel_rfl) (by kernel_rfl) (by kernel_rfl) (fun _ _ _ h => h) (by rfl) ?_ (keep_of hH0) ?_
    rotate_left
    · intro w; simp only [List.getElem?_toArray, List.getElem?_cons_succ, List.getElem?_cons_zero, Option.map_some, Option.some.injEq]; (first | (go_simp; done) | (go_simp; with_reducible rfl))
    try simp only [Act.put, List.setIfInBounds_toArray, List.set_cons_zero, List.set_cons_succ]
    refine lOne 9 (by kernel_rfl) (LStep.op (fun K hK => ?_))
    go_simp
    have H1 := Tre.hid (H0.out.allocRow #[.int .i64 g.root, .int .i64 0] 66 2 1 (by unfold maxLen; omega) rfl)
    generalize hb : wq0.heap.size = b31 at H1 ⊢
    generalize hw : wq0.alloc (.cells #[.int .i64 g.root, .int .i64 0] 66) = wq1 at H1 ⊢
    clear hb hw
    refine hK.out _ _ ?_ (fun hH1 => ?_)
    · exact ⟨H1.out.cell 7 rfl 1 rfl, H1.out.cell 1 rfl 3 rfl⟩
    clear hK K hH0
    try simp only [Act.put, List.setIfInBounds_toArray, List.set_cons_zero, List.set_cons_succ]
    refine lPure (i := 10) (some 32) (v := ?_) (by rfl) (by kernel_rfl) (by kernel_rfl) (by kernel_rfl) (by kernel_rfl) (fun _ _ _ h => h) (by rfl) ?_ (keep_of hH1) ?_
    rotate_left
    · intro w; simp only [List.getElem?_toArray, List.getElem?_cons_succ, List.getElem?_cons_zero, Option.map_some, Option.some.injEq]; (first | (go_simp; done) | (go_simp; with_reducible rfl))
    try simp only [Act.put, List.setIfInBounds_toArray, List.set_cons_zero, List.set_cons_succ]
    refine lPure (i := 11) (some 33) (v := ?_) (by rfl) (by kernel_rfl) (by kernel_rfl) (by kernel_rfl) (by kernel_rfl) (fun _ _ _ h => h) (by rfl) ?_ (keep_of hH1) ?_
    rotate_left
    · intro w; simp only [List.getElem?_toArray, List.getElem?_cons_succ, List.getElem?_cons_zero, Option.map_some, Option.some.injEq]; (first | (go_simp; done) | (go_simp; with_reducible rfl))
    try simp only [Act.put, List.setIfInBounds_toArray, List.set_cons_zero, List.set_cons_succ]
    refine lOne 12 (by kernel_rfl) (LFall.op (by kernel_rfl) (fun K hK => ?_))
    have f2 := H1.out.free 1 rfl 6
    have q2 := H1.out.cell 1 rfl 6 rfl
    have H2 := Tre.hid (H1.out.setCell 1 rfl 6 (.slice (some ⟨b31, 0, none⟩) 1 1))
    go_simp
    generalize hw : wq1.setCell ⟨bM, 6, none⟩ (.slice (some ⟨b31, 0, none⟩) 1 1) = wq2 at H2 ⊢
    clear hw f2 q2
    refine hK.out _ _ ?_
    clear hK K hH1
    try simp only [Act.put, List.setIfInBounds_toArray, List.set_cons_zero, List.set_cons_succ]
    refine lDone (by kernel_rfl) ?_
    have HL0 : Hid (Mem w wq2 [cellsR bM 64 #[.slice (some ⟨b1, o1, none⟩) g.ns.length cg, .int .i64 g.root, .slice (some ⟨b2, 0, none⟩) dh.length cL, .int .i64 0, .map (some bm), .map (some bw), .slice (some ⟨b31, 0, none⟩) 1 1], rowR 66 2 (.slice (some ⟨b31, 0, none⟩) 1 1) ([(g.root.toNat, 0)]).length (pcells ([(g.root.toNat, 0)])), mapR Tryd.prog 66 ep (fun _ : Unit => .bool true) bm 0 (fun _ => none), mapR Tryd.prog 3 en en bw 0 (fun _ => none), nodesR (.slice (some ⟨b2, 0, none⟩) dh.length cL) dh, kidsR dh, cellsR (w.heap.size + 1) 24 #[.slice bh h.ns.length ch, .int .i64 h.root], cellsR w.heap.size 24 #[.slice (some ⟨b1, o1, none⟩) g.ns.length cg, .int .i64 g.root]]) := by
      have h := H2.out.front 1 rfl
      have e : pcells [(g.root.toNat, 0)] = [.int .i64 g.root, .int .i64 0] := by show [Value.int .i64 ((g.root.toNat : Nat) : Int), Value.int .i64 ((0 : Nat) : Int)] = _; rw [← r0.out]; rfl
      show Mem _ _ _
      rw [e]
      exact h
    clear H2
    go_wp2_with fail
    go_loopg [6] (1 + left g h.leastG (fun _ => none)) (fun gk v6 wr => ∃ (u6 v : Value) (l : List (Nat × Nat)) (m : Nat × Nat → Option Unit) (f : Nat → Option Nat) (n1 n2 : Nat), v6 = u6 ∧ Hid (∀ p ∈ l, Rch g g.root.toNat p.1 ∧ p.2 = r p.1) ∧ Hid (∀ a b, f a = some b → b = r a) ∧ Hid (gk = l.length + left g h.leastG m ∧ gk ≤ 4398046511105) ∧ Hid (Mem w wr [cellsR bM 64 #[.slice (some ⟨b1, o1, none⟩) g.ns.length cg, .int .i64 g.root, .slice (some ⟨b2, 0, none⟩) dh.length cL, .int .i64 0, .map (some bm), .map (some bw), v], rowR 66 2 (v) (l).length (pcells (l)), mapR Tryd.prog 66 ep (fun _ : Unit => .bool true) bm n1 (m), mapR Tryd.prog 3 en en bw n2 (f), nodesR (.slice (some ⟨b2, 0, none⟩) dh.length cL) dh, kidsR dh, cellsR (w.heap.size + 1) 24 #[.slice bh h.ns.length ch, .int .i64 h.root], cellsR w.heap.size 24 #[.slice (some ⟨b1, o1, none⟩) g.ns.length cg, .int .i64 g.root]]))
    case atStart => exact ⟨_, _, [(g.root.toNat, 0)], fun _ => none, fun _ => none, 0, 0, rfl, fun p hp => by simp at hp; subst hp; exact ⟨.refl, HR0.out.symm⟩, fun a b h => (by cases h), ⟨rfl, by have := HP.out; omega⟩, HL0.out⟩
    case round =>
      obtain ⟨u6, v, l, m, f, n1, n2, rfl, hJ, hF, hK, hM⟩ := hrel
      obtain ⟨av, cv, rfl, _⟩ := hM.out.val 1 rfl
      have p6 := hM.out.cell 0 rfl 6 rfl
      rcases List.eq_nil_or_concat l with hl | ⟨l', p, hl⟩
      · subst hl
        have HB := Tre.hid hM.out.below
        clear hM
        go_wp2_with fail
        go_ret
        exact ⟨rfl, HB.out⟩
      · rw [List.concat_eq_append] at hl
        subst hl
        obtain ⟨x, y⟩ := p
        have hxy := hJ.out (x, y) (by simp)
        have hrx : Rch g g.root.toNat x := hxy.1
        have hyr : y = r x := hxy.2
        have hxl : x < g.ns.length := hrx.lt OG.out OG.out.root1
        have hyl : y < h.leastG.ns.length := by rw [hyr]; exact (HOM.out.reach hrx).lt OL.out OL.out.root1
        have hM' := hM.out
        rw [List.length_append, List.length_singleton, pcells_snoc] at hM'
        rw [List.length_append, List.length_singleton] at p6
        obtain ⟨gw, cw, e1, _, _⟩ := hM'.pos 1 rfl
        cases e1
        have hcc : l'.length + 1 ≤ cv := by obtain ⟨_, _, e, h⟩ := hM'.val 1 rfl; cases e; exact h
        have k0 : wr.cell? ⟨gw, l'.length * 2, none⟩ = some (.int .i64 (x : Int)) := hM'.cellAt 1 rfl (l'.length * 2) (by rw [List.getElem?_append_right (by rw [pcells_len]; omega), pcells_len, Nat.sub_self]; rfl)
        have k1 : wr.cell? ⟨gw, l'.length * 2 + 1, none⟩ = some (.int .i64 (y : Int)) := hM'.cellAt 1 rfl (l'.length * 2 + 1) (by rw [List.getElem?_append_right (by rw [pcells_len]; omega), pcells_len, show l'.length * 2 + 1 - l'.length * 2 = 1 by omega]; rfl)
        have hlen : l'.length + 1 ≤ 4398046511105 := by have h1 := hK.out.1; have h2 := hK.out.2; rw [List.length_append, List.length_singleton] at h1; omega
        have HPX : Hid ((pcells l' ++ [Value.int .i64 (x : Int), .int .i64 (y : Int)])[l'.length * 2]? = some (.int .i64 (x : Int))) := by show _ = _; rw [List.getElem?_append_right (by rw [pcells_len]; omega), pcells_len, Nat.sub_self]; rfl
        have HPY : Hid ((pcells l' ++ [Value.int .i64 (x : Int), .int .i64 (y : Int)])[l'.length * 2 + 1]? = some (.int .i64 (y : Int))) := by show _ = _; rw [List.getElem?_append_right (by rw [pcells_len]; omega), pcells_len, show l'.length * 2 + 1 - l'.length * 2 = 1 by omega]; rfl
        have HM9 : Hid (Mem w wr [cellsR bM 64 #[.slice (some ⟨b1, o1, none⟩) g.ns.length cg, .int .i64 g.root, .slice (some ⟨b2, 0, none⟩) dh.length cL, .int .i64 0, .map (some bm), .map (some bw), .slice (some ⟨gw, 0, none⟩) (l'.length + 1) cv], rowR 66 2 (.slice (some ⟨gw, 0, none⟩) (l'.length + 1) cv) (l'.length + 1) (pcells l' ++ [.int .i64 (x : Int), .int .i64 (y : Int)]), mapR Tryd.prog 66 ep (fun _ : Unit => .bool true) bm n1 (m), mapR Tryd.prog 3 en en bw n2 (f), nodesR (.slice (some ⟨b2, 0, none⟩) dh.length cL) dh, kidsR dh, cellsR (w.heap.size + 1) 24 #[.slice bh h.ns.length ch, .int .i64 h.root], cellsR w.heap.size 24 #[.slice (some ⟨b1, o1, none⟩) g.ns.length cg, .int .i64 g.root]]) := hM'
        have hwr : IntKind.i64.wrap (l'.length : Int) = (l'.length : Int) := IntWalk.i64_in _ (by omega)
        have hpos : (0 : Int) < (l'.length : Int) + 1 := by omega
        have hpos2 : (l'.length : Int) < (l'.length : Int) + 1 := by omega
        have hpos3 : (0 : Int) ≤ (l'.length : Int) := by omega
        have HYR := Tre.hid hyr
        have hcc2 : l'.length ≤ cv := by omega
        have hcc3 : ¬ cv = 0 := by omega
        clear hM hM' hxy hyr hcc
        go_wp2_with fail
        refine wp_region_keep (S := (fun w' => w'.cell? ⟨bM, 6, none⟩ = some (.slice (some ⟨gw, 0, none⟩) (l'.length + 1) cv) ∧ w'.cell? ⟨gw, l'.length * 2, none⟩ = some (.int .i64 (x : Int)) ∧ w'.cell? ⟨gw, l'.length * 2 + 1, none⟩ = some (.int .i64 (y : Int)))) [13] (by kernel_rfl) ?_ (fun hH0 => ?_)
        · exact ⟨HM9.out.drew.cell 0 rfl 6 rfl, HM9.out.drew.cellAt 1 rfl _ HPX.out, HM9.out.drew.cellAt 1 rfl _ HPY.out⟩
        have H0 := Tre.hid HM9.out.drew
        generalize hq : World.drew _ = wq0 at H0 hH0 ⊢
        clear hq HM9
        refine lPure (i := 0) (some 40) (v := ?_) (by rfl) (by kernel_rfl) (by kernel_rfl) (by kernel_rfl) (by kernel_rfl) (fun _ _ _ h => h) (by rfl) ?_ (keep_of hH0) ?_
        rotate_left
        · intro w; simp only [List.getElem?_toArray, List.getElem?_cons_zero, Option.map_some, Option.some.injEq]; (first | (go_simp; done) | (go_simp; with_reducible rfl))
        try simp only [Act.put, List.setIfInBounds_toArray, List.set_cons_zero, List.set_cons_succ]
        refine lPure (i := 1) (some 41) (v := ?_) (by rfl) (by kernel_rfl) (by kernel_rfl) (by kernel_rfl) (by kernel_rfl) (fun _ _ _ h => h) (by rfl) ?_ (keep_of hH0) ?_
        rotate_left
        · intro w; simp only [List.getElem?_toArray, List.getElem?_cons_succ, List.getElem?_cons_zero, Option.map_some, Option.some.injEq]; (first | (go_simp; done) | (go_simp; with_reducible rfl))
        try simp only [Act.put, List.setIfInBounds_toArray, List.set_cons_zero, List.set_cons_succ]
        refine lPure (i := 2) (some 42) (v := ?_) (by rfl) (by kernel_rfl) (by kernel_rfl) (by kernel_rfl) (by kernel_rfl) (fun _ _ _ h => h) (by rfl) ?_ (keep_of hH0) ?_
        rotate_left
        · intro w; simp only [List.getElem?_toArray, List.getElem?_cons_succ, List.getElem?_cons_zero, Option.map_some, Option.some.injEq]; (first | (go_simp; done) | (go_simp; with_reducible rfl))
        try simp only [Act.put, List.setIfInBounds_toArray, List.set_cons_zero, List.set_cons_succ]
        refine lPure (i := 4) (some 44) (v := ?_) (by rfl) (by kernel_rfl) (by kernel_rfl) (by kernel_rfl) (by kernel_rfl) (fun _ _ _ h => h) (by rfl) ?_ (keep_of hH0) ?_
        rotate_left
        · intro w; simp only [List.getElem?_toArray, List.getElem?_cons_succ, List.getElem?_cons_zero, Option.map_some, Option.some.injEq]; (first | (go_simp; done) | (go_simp; with_reducible rfl))
        try simp only [Act.put, List.setIfInBounds_toArray, List.set_cons_zero, List.set_cons_succ]
        refine lPure (i := 5) (some 45) (v := ?_) (by rfl) (by kernel_rfl) (by kernel_rfl) (by kernel_rfl) (by kernel_rfl) (fun _ _ _ h => h) (by rfl) ?_ (keep_of hH0) ?_
        rotate_left
        · intro w; simp only [List.getElem?_toArray, List.getElem?_cons_succ, List.getElem?_cons_zero, Option.map_some, Option.some.injEq]; (first | (go_simp; done) | (go_simp; with_reducible rfl))
        try simp only [Act.put, List.setIfInBounds_toArray, List.set_cons_zero, List.set_cons_succ]
        refine lPure (i := 6) (some 46) (v := ?_) (by rfl) (by kernel_rfl) (by kernel_rfl) (by kernel_rfl) (by kernel_rfl) (fun _ _ _ h => h) (by rfl) ?_ (keep_of hH0) ?_
        rotate_left
        · intro w; simp only [List.getElem?_toArray, List.getElem?_cons_succ, List.getElem?_cons_zero, Option.map_some, Option.some.injEq]; (first | (go_simp; done) | (go_simp; with_reducible rfl))
        try simp only [Act.put, List.setIfInBounds_toArray, List.set_cons_zero, List.set_cons_succ]
        refine lTake (i := 3) (some 43) (v := ?_) (by rfl) (by kernel_rfl) (by kernel_rfl) (by kernel_rfl) (by kernel_rfl) (by kernel_rfl) (fun _ _ _ h => h) (by rfl) ?_ hH0 ?_
        rotate_left
        · intro w hSw; (try dsimp only at hSw); simp only [List.getElem?_toArray, List.getElem?_cons_succ, List.getElem?_cons_zero, Option.map_some, Option.some.injEq]; (first | (go_simp; done) | (go_simp; with_reducible rfl))
        try simp only [Act.put, List.setIfInBounds_toArray, List.set_cons_zero, List.set_cons_succ]
        refine lTake (i := 7) (some 47) (v := ?_) (by rfl) (by kernel_rfl) (by kernel_rfl) (by kernel_rfl) (by kernel_rfl) (by kernel_rfl) (fun _ _ _ h => h) (by rfl) ?_ hH0 ?_
        rotate_left
        · intro w hSw; (try dsimp only at hSw); simp only [List.getElem?_toArray, List.getElem?_cons_succ, List.getElem?_cons_zero, Option.map_some, Option.some.injEq]; (first | (go_simp; done) | (go_simp; with_reducible rfl))
        try simp only [Act.put, List.setIfInBounds_toArray, List.set_cons_zero, List.set_cons_succ]
        refine lPure (i := 8) (some 48) (v := ?_) (by rfl) (by kernel_rfl) (by kernel_rfl) (by kernel_rfl) (by kernel_rfl) (fun _ _ _ h => h) (by rfl) ?_ (keep_of hH0) ?_
        rotate_left
        · intro w; simp only [List.getElem?_toArray, List.getElem?_cons_succ, List.getElem?_cons_zero, Option.map_some, Option.some.injEq]; (first | (go_simp; done) | (go_simp; with_reducible rfl))
        try simp only [Act.put, List.setIfInBounds_toArray, List.set_cons_zero, List.set_cons_succ]
        refine lPure (i := 9) (some 49) (v := ?_) (by rfl) (by kernel_rfl) (by kernel_rfl) (by kernel_rfl) (by kernel_rfl) (fun _ _ _ h => h) (by rfl) ?_ (keep_of hH0) ?_
        rotate_left
        · intro w; simp only [List.getElem?_toArray, List.getElem?_cons_succ, List.getElem?_cons_zero, Option.map_some, Option.some.injEq]; (first | (go_simp; done) | (go_simp; with_reducible rfl))
        try simp only [Act.put, List.setIfInBounds_toArray, List.set_cons_zero, List.set_cons_succ]
        refine lPure (i := 10) (some 50) (v := ?_) (by rfl) (by kernel_rfl) (by kernel_rfl) (by kernel_rfl) (by kernel_rfl) (fun _ _ _ h => h) (by rfl) ?_ (keep_of hH0) ?_
        rotate_left
        · intro w; simp only [List.getElem?_toArray, List.getElem?_cons_succ, List.getElem?_cons_zero, Option.map_some, Option.some.injEq]; (first | (go_simp; done) | (go_simp; with_reducible rfl))
        try simp only [Act.put, List.setIfInBounds_toArray, List.set_cons_zero, List.set_cons_succ]
        refine lTake (i := 11) (some 51) (v := ?_) (by rfl) (by kernel_rfl) (by kernel_rfl) (by kernel_rfl) (by kernel_rfl) (by kernel_rfl) (fun _ _ _ h => h) (by rfl) ?_ hH0 ?_
        rotate_left
        · intro w hSw; (try dsimp only at hSw); simp only [List.getElem?_toArray, List.getElem?_cons_succ, List.getElem?_cons_zero, Option.map_some, Option.some.injEq]; (first | (go_simp; done) | (go_simp; with_reducible rfl))
        try simp only [Act.put, List.setIfInBounds_toArray, List.set_cons_zero, List.set_cons_succ]
        refine lOne 12 (by kernel_rfl) (LStep.op (fun K hK => ?_))
        go_simp
        have H1 := Tre.hid (H0.out.allocR #[.int .i64 0, .int .i64 0] 66)
        generalize hb : wq0.heap.size = bp at H1 ⊢
        generalize hw : wq0.alloc (.cells #[.int .i64 0, .int .i64 0] 66) = wq1 at H1 ⊢
        clear hb hw
        refine hK.out _ _ ?_ (fun hH1 => ?_)
        · exact ⟨H1.out.cell 1 rfl 6 rfl, H1.out.cellAt 2 rfl _ HPX.out, H1.out.cellAt 2 rfl _ HPY.out⟩
        clear hK K hH0
        try simp only [Act.put, List.setIfInBounds_toArray, List.set_cons_zero, List.set_cons_succ]
        refine lOne 13 (by kernel_rfl) (LFall.op (by kernel_rfl) (fun K hK => ?_))
        obtain ⟨z0, z1⟩ := H1.out.two 0 rfl
        have zf0 := H1.out.free 0 rfl 0
        have zf1 := H1.out.free 0 rfl 1
        go_simp
        have H2 := Tre.hid ((H1.out.setCell 0 rfl 0 (.int .i64 (x : Int))).setCell 0 rfl 1 (.int .i64 (y : Int)))
        generalize hw : (wq1.setCell ⟨bp, 0, none⟩ (.int .i64 (x : Int))).setCell ⟨bp, 1, none⟩ (.int .i64 (y : Int)) = wq2 at H2 ⊢
        clear hw z0 z1 zf0 zf1
        refine hK.out _ _ ?_
        clear hK K hH1
        try simp only [Act.put, List.setIfInBounds_toArray, List.set_cons_zero, List.set_cons_succ]
        refine lDone (by kernel_rfl) ?_
        have HM9 := H2
        skip
        go_wp2_with fail
        refine wp_region_keep (S := (fun w' => w'.cell? ⟨bM, 6, none⟩ = some (.slice (some ⟨gw, 0, none⟩) (l'.length + 1) cv))) [14] (by kernel_rfl) ?_ (fun hH0 => ?_)
        · exact HM9.out.drew.cell 1 rfl 6 rfl
        have G0 := Tre.hid HM9.out.drew
        generalize hq : World.drew _ = wg0 at G0 hH0 ⊢
        clear hq HM9 H2 k0 k1 p6
        refine lPure (i := 0) (some 52) (v := ?_) (by rfl) (by kernel_rfl) (by kernel_rfl) (by kernel_rfl) (by kernel_rfl) (fun _ _ _ h => h) (by rfl) ?_ (keep_of hH0) ?_
        rotate_left
        · intro w; simp only [List.getElem?_toArray, List.getElem?_cons_zero, Option.map_some, Option.some.injEq]; (first | (go_simp; done) | (go_simp; with_reducible rfl))
        try simp only [Act.put, List.setIfInBounds_toArray, List.set_cons_zero, List.set_cons_succ]
        refine lPure (i := 1) (some 53) (v := ?_) (by rfl) (by kernel_rfl) (by kernel_rfl) (by kernel_rfl) (by kernel_rfl) (fun _ _ _ h => h) (by rfl) ?_ (keep_of hH0) ?_
        rotate_left
        · intro w; simp only [List.getElem?_toArray, List.getElem?_cons_succ, List.getElem?_cons_zero, Option.map_some, Option.some.injEq]; (first | (go_simp; done) | (go_simp; with_reducible rfl))
        try simp only [Act.put, List.setIfInBounds_toArray, List.set_cons_zero, List.set_cons_succ]
        refine lPure (i := 2) (some 54) (v := ?_) (by rfl) (by kernel_rfl) (by kernel_rfl) (by kernel_rfl) (by kernel_rfl) (fun _ _ _ h => h) (by rfl) ?_ (keep_of hH0) ?_
        rotate_left
        · intro w; simp only [List.getElem?_toArray, List.getElem?_cons_succ, List.getElem?_cons_zero, Option.map_some, Option.some.injEq]; (first | (go_simp; done) | (go_simp; with_reducible rfl))
        try simp only [Act.put, List.setIfInBounds_toArray, List.set_cons_zero, List.set_cons_succ]
        refine lPure (i := 3) (some 55) (v := ?_) (by rfl) (by kernel_rfl) (by kernel_rfl) (by kernel_rfl) (by kernel_rfl) (fun _ _ _ h => h) (by rfl) ?_ (keep_of hH0) ?_
        rotate_left
        · intro w; simp only [List.getElem?_toArray, List.getElem?_cons_succ, List.getElem?_cons_zero, Option.map_some, Option.some.injEq]; (first | (go_simp; done) | (go_simp; with_reducible rfl))
        try simp only [Act.put, List.setIfInBounds_toArray, List.set_cons_zero, List.set_cons_succ]
        refine lPure (i := 5) (some 57) (v := ?_) (by rfl) (by kernel_rfl) (by kernel_rfl) (by kernel_rfl) (by kernel_rfl) (fun _ _ _ h => h) (by rfl) ?_ (keep_of hH0) ?_
        rotate_left
        · intro w; simp only [List.getElem?_toArray, List.getElem?_cons_succ, List.getElem?_cons_zero, Option.map_some, Option.some.injEq]; (first | (go_simp; done) | (go_simp; with_reducible rfl))
        try simp only [Act.put, List.setIfInBounds_toArray, List.set_cons_zero, List.set_cons_succ]
        refine lPure (i := 6) (some 58) (v := ?_) (by rfl) (by kernel_rfl) (by kernel_rfl) (by kernel_rfl) (by kernel_rfl) (fun _ _ _ h => h) (by rfl) ?_ (keep_of hH0) ?_
        rotate_left
        · intro w; simp only [List.getElem?_toArray, List.getElem?_cons_succ, List.getElem?_cons_zero, Option.map_some, Option.some.injEq]; (first | (go_simp; done) | (go_simp; with_reducible rfl))
        try simp only [Act.put, List.setIfInBounds_toArray, List.set_cons_zero, List.set_cons_succ]
        refine lPure (i := 7) (some 59) (v := ?_) (by rfl) (by kernel_rfl) (by kernel_rfl) (by kernel_rfl) (by kernel_rfl) (fun _ _ _ h => h) (by rfl) ?_ (keep_of hH0) ?_
        rotate_left
        · intro w; simp only [List.getElem?_toArray, List.getElem?_cons_succ, List.getElem?_cons_zero, Option.map_some, Option.some.injEq]; (first | (go_simp; done) | (go_simp; with_reducible rfl))
        try simp only [Act.put, List.setIfInBounds_toArray, List.set_cons_zero, List.set_cons_succ]
        refine lTake (i := 4) (some 56) (v := ?_) (by rfl) (by kernel_rfl) (by kernel_rfl) (by kernel_rfl) (by kernel_rfl) (by kernel_rfl) (fun _ _ _ h => h) (by rfl) ?_ hH0 ?_
        rotate_left
        · intro w hSw; (try dsimp only at hSw); simp only [List.getElem?_toArray, List.getElem?_cons_succ, List.getElem?_cons_zero, Option.map_some, Option.some.injEq]; (first | (go_simp; done) | (go_simp; with_reducible rfl))
        try simp only [Act.put, List.setIfInBounds_toArray, List.set_cons_zero, List.set_cons_succ]
        refine lTake (i := 8) (some 60) (v := ?_) (by rfl) (by kernel_rfl) (by kernel_rfl) (by kernel_rfl) (by kernel_rfl) (by kernel_rfl) (fun _ _ _ h => h) (by rfl) ?_ hH0 ?_
        rotate_left
        · intro w hSw; (try dsimp only at hSw); simp only [List.getElem?_toArray, List.getElem?_cons_succ, List.getElem?_cons_zero, Option.map_some, Option.some.injEq]; (first | (go_simp; done) | (go_simp; with_reducible rfl))
        try simp only [Act.put, List.setIfInBounds_toArray, List.set_cons_zero, List.set_cons_succ]
        refine lPure (i := 9) (some 61) (v := ?_) (by rfl) (by kernel_rfl) (by kernel_rfl) (by kernel_rfl) (by kernel_rfl) (fun _ _ _ h => h) (by rfl) ?_ (keep_of hH0) ?_
        rotate_left
        · intro w; simp only [List.getElem?_toArray, List.getElem?_cons_succ, List.getElem?_cons_zero, Option.map_some, Option.some.injEq]; (first | (go_simp; done) | (go_simp; with_reducible rfl))
        try simp only [Act.put, List.setIfInBounds_toArray, List.set_cons_zero, List.set_cons_succ]
        refine lPure (i := 10) (some 62) (v := ?_) (by rfl) (by kernel_rfl) (by kernel_rfl) (by kernel_rfl) (by kernel_rfl) (fun _ _ _ h => h) (by rfl) ?_ (keep_of hH0) ?_
        rotate_left
        · intro w; simp only [List.getElem?_toArray, List.getElem?_cons_succ, List.getElem?_cons_zero, Option.map_some, Option.some.injEq]; (first | (go_simp; done) | (go_simp; with_reducible rfl))
        try simp only [Act.put, List.setIfInBounds_toArray, List.set_cons_zero, List.set_cons_succ]
        refine lPure (i := 11) (some 63) (v := ?_) (by rfl) (by kernel_rfl) (by kernel_rfl) (by kernel_rfl) (by kernel_rfl) (fun _ _ _ h => h) (by rfl) ?_ (keep_of hH0) ?_
        rotate_left
        · intro w; simp only [List.getElem?_toArray, List.getElem?_cons_succ, List.getElem?_cons_zero, Option.map_some, Option.some.injEq]; (first | (go_simp; done) | (go_simp; with_reducible rfl))
        try simp only [Act.put, List.setIfInBounds_toArray, List.set_cons_zero, List.set_cons_succ]
        refine lPure (i := 12) (some 64) (v := ?_) (by rfl) (by kernel_rfl) (by kernel_rfl) (by kernel_rfl) (by kernel_rfl) (fun _ _ _ h => h) (by rfl) ?_ (keep_of hH0) ?_
        rotate_left
        · intro w; simp only [List.getElem?_toArray, List.getElem?_cons_succ, List.getElem?_cons_zero, Option.map_some, Option.some.injEq]; (first | (go_simp; done) | (go_simp; with_reducible rfl))
        try simp only [Act.put, List.setIfInBounds_toArray, List.set_cons_zero, List.set_cons_succ]
        refine lPure (i := 13) (some 65) (v := ?_) (by rfl) (by kernel_rfl) (by kernel_rfl) (by kernel_rfl) (by kernel_rfl) (fun _ _ _ h => h) (by rfl) ?_ (keep_of hH0) ?_
        rotate_left
        · intro w; simp only [List.getElem?_toArray, List.getElem?_cons_succ, List.getElem?_cons_zero, Option.map_some, Option.some.injEq]; (first | (go_simp; done) | (go_simp; with_reducible rfl))
        try simp only [Act.put, List.setIfInBounds_toArray, List.set_cons_zero, List.set_cons_succ]
        refine lOne 14 (by kernel_rfl) (LFall.op (by kernel_rfl) (fun K hK => ?_))
        have f2 := G0.out.free 1 rfl 6
        have q2 := G0.out.cell 1 rfl 6 rfl
        have G1 := Tre.hid ((G0.out.setCell 1 rfl 6 (.slice (some ⟨gw, 0, none⟩) l'.length cv)).pop 2 rfl (pcells_len l'))
        go_simp
        generalize hw : wg0.setCell ⟨bM, 6, none⟩ (.slice (some ⟨gw, 0, none⟩) l'.length cv) = wg1 at G1 ⊢
        clear hw f2 q2
        refine hK.out _ _ ?_
        clear hK K hH0
        try simp only [Act.put, List.setIfInBounds_toArray, List.set_cons_zero, List.set_cons_succ]
        refine lDone (by kernel_rfl) ?_
        have HM1 : Hid (Mem w wg1 ([cellsR bM 64 #[.slice (some ⟨b1, o1, none⟩) g.ns.length cg, .int .i64 g.root, .slice (some ⟨b2, 0, none⟩) dh.length cL, .int .i64 0, .map (some bm), .map (some bw), .slice (some ⟨gw, 0, none⟩) l'.length cv], rowR 66 2 (.slice (some ⟨gw, 0, none⟩) l'.length cv) (l').length (pcells (l')), mapR Tryd.prog 66 ep (fun _ : Unit => .bool true) bm n1 (m), mapR Tryd.prog 3 en en bw n2 (f), nodesR (.slice (some ⟨b2, 0, none⟩) dh.length cL) dh, kidsR dh, cellsR (w.heap.size + 1) 24 #[.slice bh h.ns.length ch, .int .i64 h.root], cellsR w.heap.size 24 #[.slice (some ⟨b1, o1, none⟩) g.ns.length cg, .int .i64 g.root]])) := G1.out.del 0
        obtain ⟨p0, p1⟩ := G1.out.two 0 rfl
        clear G1
        cases hmet : m (x, y) with
        | some u =>
          cases u
          have CM := match_met g x y b1 o1 cg b2 dh.length cL bM bm bw n1 n2 0 (.slice (some ⟨gw, 0, none⟩) l'.length cv) l' m f dh [cellsR (w.heap.size + 1) 24 #[.slice bh h.ns.length ch, .int .i64 h.root], cellsR w.heap.size 24 #[.slice (some ⟨b1, o1, none⟩) g.ns.length cg, .int .i64 g.root]] w wg1 HM1.out (by have := OG.out.len; omega) (by have := OL.out.len; omega) hmet
          have HCM := Tre.hid CM
          clear CM hmet
          go_wp2_with fail
          refine HCM.out.mono ?_
          rintro e w9 ⟨rfl, M9⟩
          have HM9 := Tre.hid M9
          clear M9
          go_wp2_with fail
          go_roundg (l'.length + left g h.leastG m)
          case measure => have h1 := hK.out.1; rw [List.length_append, List.length_singleton] at h1; omega
          case rel => exact ⟨_, _, l', m, f, n1, n2, rfl, fun p hp => hJ.out p (by simp [hp]), hF.out, ⟨rfl, by have h1 := hK.out.1; have h2 := hK.out.2; rw [List.length_append, List.length_singleton] at h1; omega⟩, HM9.out⟩
        | none =>
          have hyd : y < dh.length := by have h1 := congrArg List.length HDH.out; rw [List.length_map] at h1; omega
          have hdg : dh[y]? = some dh[y] := List.getElem?_eq_getElem hyd
          obtain ⟨d, hd⟩ : ∃ d, d = dh[y] := ⟨_, rfl⟩
          rw [← hd] at hdg
          have hdn : d.n = h.leastG.nd y := by
            rw [Graph.nd_eq hyl]
            have h1 : (dh.map NodeV.n)[y]? = some d.n := by rw [List.getElem?_map, hdg]; rfl
            rw [HDH.out, List.getElem?_eq_getElem hyl] at h1
            exact (Option.some.inj h1).symm
          have q1 := HOM.out.kind x hrx
          have q2 := HOM.out.name x hrx
          have q3 := HOM.out.labels x hrx
          have q4 := HOM.out.open_ x hrx
          have q5 := HOM.out.kids x hrx
          have q6 := HOM.out.args hrx
          rw [← HYR.out] at q1 q2 q3 q4 q5 q6
          have aX := OG.out.kids_eq hxl
          have aY := OL.out.kids_eq hyl
          have mx := OG.out.may x hxl
          have hXat : NodeAt w b1 (o1 + x * 5) (g.nd x) := by
            obtain ⟨b', o', e, hn⟩ := HG.out.at_ x (g.nd x) (by rw [Graph.nd_eq hxl]; exact List.getElem?_eq_getElem hxl)
            cases e; exact hn
          have hXw : (g.nd x).weight ≤ g.weight := by rw [Graph.nd_eq hxl]; exact node_weight (List.getElem_mem hxl)
          have hxa := args_len (g.nd x)
          have hxb := labels_len (g.nd x)
          have hk3 : (g.nd x).kind = 3 → (g.nd x).labels.length = (g.nd x).args.length ∧ rising (g.nd x).labels = true := fun e => by
            unfold mayB at mx
            rw [if_neg (by omega), if_neg (by omega), if_pos e] at mx
            simp only [Bool.and_eq_true, decide_eq_true_iff] at mx
            exact ⟨mx.2.1.2, mx.2.2⟩
          have hdn2 : d.n = ⟨(g.nd x).kind, (g.nd x).name, (h.leastG.nd y).args, (g.nd x).labels, (g.nd x).isOpen⟩ := by
            rw [hdn, ← q1, ← q2, ← q3, ← q4]
          have hfx : f x = none ∨ f x = some y := by
            cases hf : f x with
            | none => exact .inl rfl
            | some b => rw [hF.out x b hf, ← HYR.out]; exact .inr rfl
          have CM := match_new (g.nd x).kind (g.nd x).name (g.nd x).args (h.leastG.nd y).args (g.nd x).labels (g.nd x).isOpen (g.kids x) (h.leastG.kids y) d g x y b1 o1 cg b2 dh.length cL bM bm bw n1 n2 0 (.slice (some ⟨gw, 0, none⟩) l'.length cv) l' m f dh [cellsR (w.heap.size + 1) 24 #[.slice bh h.ns.length ch, .int .i64 h.root], cellsR w.heap.size 24 #[.slice (some ⟨b1, o1, none⟩) g.ns.length cg, .int .i64 g.root]] w wg1 HM1.out hxl hyd OG.out.len (by have h1 := congrArg List.length HDH.out; rw [List.length_map] at h1; have := OL.out.len; omega) hmet
            hXat rfl hdg hdn2 aX aY q6 hk3 (by omega) (by omega) (by omega) hfx
          have HLM := Tre.hid (left_mark (p := (x, y)) hxl hyl hmet)
          have HDG : Hid (((g.kids x).zip (h.leastG.kids y)).length = g.deg x) := by show _ = _; rw [List.length_zip, g.kids_len, q5, List.length_map, g.kids_len, Nat.min_self]
          have HZ : Hid (∀ p ∈ (g.kids x).zip (h.leastG.kids y), Rch g g.root.toNat p.1 ∧ p.2 = r p.1) := fun p hp => by
            rw [q5] at hp
            obtain ⟨i, hi, e⟩ := List.getElem_of_mem hp
            rw [List.getElem_zip, List.getElem_map] at e
            rw [← e]
            exact ⟨hrx.step (List.getElem_mem _), rfl⟩
          have HCM := Tre.hid CM
          clear CM hmet q1 q2 q3 q4 q5 q6 aX aY mx hXat hk3 hdn hdn2 hfx hdg hd
          go_wp2_with fail
          refine HCM.out.mono ?_
          rintro e w9 ⟨rfl, v', l2, m2, f2, n3, n4, hm2, hl2, hf2, M9⟩
          have HM9 := Tre.hid M9
          clear M9
          have HF2 : Hid (∀ a b, f2 a = some b → b = r a) := fun a b h => by
            rcases hf2.out a b h with h | ⟨rfl, rfl⟩
            · exact hF.out a b h
            · exact HYR.out
          have HJ2 : Hid (∀ p ∈ l2, Rch g g.root.toNat p.1 ∧ p.2 = r p.1) := fun p hp => by
            rcases hl2.out with e | e
            · rw [e] at hp; exact hJ.out p (by simp [hp])
            · rw [e] at hp
              rcases List.mem_append.1 hp with hp | hp
              · exact hJ.out p (by simp [hp])
              · exact HZ.out p hp
          have HN2 : Hid (l2.length + left g h.leastG m2 ≤ l'.length + left g h.leastG m) := by
            have h1 := HLM.out
            have h2 := HDG.out
            show _ ≤ _
            rw [hm2.out]
            rcases hl2.out with e | e
            · rw [e]; omega
            · rw [e, List.length_append]; omega
          go_wp2_with fail
          go_roundg (l2.length + left g h.leastG m2)
          case measure => have h1 := hK.out.1; have h2 := HN2.out; rw [List.length_append, List.length_singleton] at h1; omega
          case rel => exact ⟨_, _, l2, m2, f2, n3, n4, rfl, HJ2.out, HF2.out, ⟨rfl, by have h1 := hK.out.1; have h2 := hK.out.2; have h3 := HN2.out; rw [List.length_append, List.length_singleton] at h1; omega⟩, HM9.out⟩

end Go.Proofs.YtlkfhbmjemjohaaDoor.gr
