/- GraphChecks: the walk. -/
import Derived.Test.YtgngnkajjldnlaaAlive
import Derived.Test.YtgngnkajjldnlaaRtrim
import Derived.Test.YtgngnkajjldnlaaLoos
import Derived.Test.YtgngnkajjldnlaaRefe
import Derived.Deep.DeepCutAuto
namespace Go.Tre
open Go.RowKit
theorem Row.below' {w w' : World} {sz : Nat} {a : Option Addr} {n : Nat} {cs : List Value} (h : Row w sz a n cs) (hb : Below w.heap.size w w') : Row w' sz a n cs := h.below hb
end Go.Tre
namespace Go.Proofs.Ytgngnkajjldnlaa.gr
open Go.RowKit Go.Shelf Go.Maps Go.Tre lex
theorem ints_row {w : World} {a : Option Addr} {c n : Nat} {L : List Nat} (h : w.ownsRow 0 3 1 (.slice a n c) n (L.map rk)) : IntsAt w a (L.map fun k : Nat => (k : Int)) := by
  obtain ⟨a', c', e, _, r⟩ := row_read h
  cases e
  have hl : n = L.length := by have := h.1; simpa using this.symm
  subst hl
  show Row w 1 a (L.map fun k : Nat => (k : Int)).length ((L.map fun k : Nat => (k : Int)).map (Value.int .i64))
  rw [List.map_map, List.length_map]
  exact r

set_option maxRecDepth 100000 in
set_option maxHeartbeats 16000000 in
theorem checkLaw (a : Option Addr) (ca : Nat) (g : Tre.Graph) (w : World) (hg : NodesAt w a g.ns) (wg : g.weight ≤ 2097152) (hm : MaxAt w) :
    Calls Try.prog 8 #[.agg #[.slice a g.ns.length ca, .int .i64 g.root]] w fun e w' => e = .returned (.bool true) ∧ Below w.heap.size w w' := by
  have M := (Mem.nil w).allocR #[.slice a g.ns.length ca, .int .i64 g.root] 24
  have HM := Tre.hid hm
  have HG := Tre.hid hg
  have HM0 := Tre.hid M
  obtain ⟨ii, I1, I2, I3, I4⟩ := info_parts infoN
  have J1 := Tre.hid I1
  have J2 := Tre.hid I2
  have J3 := Tre.hid I3
  have J4 := Tre.hid I4
  obtain ⟨dw, d1, d2, d3⟩ := nodes_row hg
  have DW := Tre.hid d1
  have DWR := Tre.hid d2
  have DWV := Tre.hid d3
  have hgl : g.ns.length ≤ 2097152 := Nat.le_trans (length_le_sum _ (fun n => by unfold Tre.Node.weight; omega) g.ns) wg
  have hlr : g.reachL.length ≤ 8388608 := by have := g.reach_len; omega
  have hlf : g.freeL.length ≤ 8388608 := by have h1 := g.reach_len; have h2 : g.freeL.length ≤ g.reachL.length := List.length_filter_le ..; omega
  clear hm hg M I1 I2 I3 I4 d1 d2 d3
  go_enter Try.func8, Try.ntmps8
  go_wp2_with fail
  refine (alive_any _ (HM.out.below HM0.out.below)).mono ?_
  rintro e w1 ⟨rfl, b1⟩
  have M1 := HM0.out.quiet b1
  obtain ⟨g0, g1⟩ := M1.two 0 rfl
  have HM1 := Tre.hid M1
  clear M1 b1
  go_wp2_with fail
  refine (great.great a ca g _ (by omega) (HG.out.below HM1.out.below)).mono ?_
  rintro e w2 ⟨rfl, b2⟩
  clear g0 g1
  have M2 := HM1.out.quiet b2
  obtain ⟨g0, g1⟩ := M2.two 0 rfl
  have HM2 := Tre.hid M2
  clear M2 b2
  by_cases t2 : (1000 : Int) < g.great
  · go_wp2_with fail
    go_ret
    exact ⟨rfl, HM2.out.below⟩
  go_upto_region 5 with fail
  go_cut [3] (fun s3 wx => ∃ (B3 : Nat) (vW : Value), s3 = .pointer (some ⟨B3, 0, none⟩) ∧ Hid (Mem w wx [rowR 33 5 vW g.ns.length (dw.flatMap NodeV.cells), cellsR B3 24 #[vW, .int .i64 g.root], cellsR w.heap.size 24 #[.slice a g.ns.length ca, .int .i64 g.root]]))
  case first =>
    refine wp_region_keep (S := (fun w' => w'.cell? ⟨w.heap.size, 0, none⟩ = some (.slice a g.ns.length ca) ∧ w'.cell? ⟨w.heap.size, 1, none⟩ = some (.int .i64 g.root))) [8] (by kernel_rfl) ?_ (fun hH0 => ?_)
    · exact ⟨g0, g1⟩
    have H0 := Tre.hid HM2.out.drew
    generalize hq : w2.drew = wq0 at H0 hH0 ⊢
    clear hq
    refine lPure (i := 0) (some 13) (v := ?_) (by rfl) (by kernel_rfl) (by kernel_rfl) (by kernel_rfl) (by kernel_rfl) (fun _ _ _ h => h) (by rfl) ?_ (keep_of hH0) ?_
    rotate_left
    · intro w; simp only [List.getElem?_toArray, List.getElem?_cons_zero, Option.map_some, Option.some.injEq]; (first | (go_simp; done) | (go_simp; with_reducible rfl))
    try simp only [Act.put, List.setIfInBounds_toArray, List.set_cons_zero, List.set_cons_succ]
    refine lPure (i := 3) (some 16) (v := ?_) (by rfl) (by kernel_rfl) (by kernel_rfl) (by kernel_rfl) (by kernel_rfl) (fun _ _ _ h => h) (by rfl) ?_ (keep_of hH0) ?_
    rotate_left
    · intro w; simp only [List.getElem?_toArray, List.getElem?_cons_succ, List.getElem?_cons_zero, Option.map_some, Option.some.injEq]; (first | (go_simp; done) | (go_simp; with_reducible rfl))
    try simp only [Act.put, List.setIfInBounds_toArray, List.set_cons_zero, List.set_cons_succ]
    refine lTake (i := 1) (some 14) (v := ?_) (by rfl) (by kernel_rfl) (by kernel_rfl) (by kernel_rfl) (by kernel_rfl) (by kernel_rfl) (fun _ _ _ h => h) (by rfl) ?_ hH0 ?_
    rotate_left
    · intro w hSw; (try dsimp only at hSw); simp only [List.getElem?_toArray, List.getElem?_cons_succ, List.getElem?_cons_zero, Option.map_some, Option.some.injEq]; (first | (go_simp; done) | (go_simp; with_reducible rfl))
    try simp only [Act.put, List.setIfInBounds_toArray, List.set_cons_zero, List.set_cons_succ]
    refine lTake (i := 4) (some 17) (v := ?_) (by rfl) (by kernel_rfl) (by kernel_rfl) (by kernel_rfl) (by kernel_rfl) (by kernel_rfl) (fun _ _ _ h => h) (by rfl) ?_ hH0 ?_
    rotate_left
    · intro w hSw; (try dsimp only at hSw); simp only [List.getElem?_toArray, List.getElem?_cons_succ, List.getElem?_cons_zero, Option.map_some, Option.some.injEq]; (first | (go_simp; done) | (go_simp; with_reducible rfl))
    try simp only [Act.put, List.setIfInBounds_toArray, List.set_cons_zero, List.set_cons_succ]
    refine lTwo 2 7 (by kernel_rfl) (LStep.op (fun K hK => ?_)) (LStep.op (fun K hK => ?_))
    · -- 15
      go_simp
      have H1 := Tre.hid (H0.out.allocRow #[] 33 5 0 (by unfold maxLen; omega) rfl)
      generalize hb : wq0.heap.size = b15 at H1 ⊢
      generalize hw : wq0.alloc (.cells #[] 33) = wq1 at H1 ⊢
      clear hb hw
      refine hK.out _ _ ?_ (fun hH1 => ?_)
      · exact H1.out.two 1 rfl
      clear hK K hH0
      try simp only [Act.put, List.setIfInBounds_toArray, List.set_cons_zero, List.set_cons_succ]
      refine lTwo 5 7 (by kernel_rfl) (LStep.op (fun K hK => ?_)) (LStep.op (fun K hK => ?_))
      · -- 18
        simp only [List.getElem?_toArray, List.getElem?_cons_succ, List.getElem?_cons_zero]
        rw [if_pos (by rfl)]
        refine wp_append_row _ _ _ 22 (by rfl) 33 ii _ 5 80 Try.underlying22 J1.out J2.out J3.out J4.out rfl (by omega) (.slice (some ⟨b15, 0, none⟩) 0 0) 0 [] (by rfl) (H1.out.row 0 rfl) a g.ns.length ca (dw.flatMap NodeV.cells) (by rfl) (DWR.out.below' H1.out.below) (cells_one _ (fun d hd => ⟨_, DWV.out d hd⟩)) (by unfold maxLen; omega) (by omega) ?_
        intro v' wq2 hown4 hgrow4 hat4
        simp only [Nat.zero_add, List.nil_append] at hown4
        have M4 := H1.out.grow 0 rfl hgrow4 hown4 hat4
        obtain ⟨aW, cW, rfl, _⟩ := M4.val 0 rfl
        have H2 := Tre.hid M4
        clear M4 hown4 hgrow4 hat4
        (try dsimp only)
        refine hK.out _ _ ?_ (fun hH2 => ?_)
        · exact H2.out.two 1 rfl
        clear hK K hH1
        try simp only [Act.put, List.setIfInBounds_toArray, List.set_cons_zero, List.set_cons_succ]
        refine lPure (i := 6) (some 19) (v := ?_) (by rfl) (by kernel_rfl) (by kernel_rfl) (by kernel_rfl) (by kernel_rfl) (fun _ _ _ h => h) (by rfl) ?_ (keep_of hH2) ?_
        rotate_left
        · intro w; simp only [List.getElem?_toArray, List.getElem?_cons_succ, List.getElem?_cons_zero, Option.map_some, Option.some.injEq]; (first | (go_simp; done) | (go_simp; with_reducible rfl))
        try simp only [Act.put, List.setIfInBounds_toArray, List.set_cons_zero, List.set_cons_succ]
        refine lOne 7 (by kernel_rfl) (LStep.op (fun K hK => ?_))
        go_simp
        have H3 := Tre.hid (H2.out.allocR #[.slice none 0 0, .int .i64 0] 24)
        generalize hb : wq2.heap.size = b3 at H3 ⊢
        generalize hw : wq2.alloc (.cells #[.slice none 0 0, .int .i64 0] 24) = wq3 at H3 ⊢
        clear hb hw
        refine hK.out _ _ ?_ (fun hH3 => ?_)
        · exact H3.out.two 2 rfl
        clear hK K hH2
        try simp only [Act.put, List.setIfInBounds_toArray, List.set_cons_zero, List.set_cons_succ]
        refine lOne 8 (by kernel_rfl) (LFall.op (by kernel_rfl) (fun K hK => ?_))
        obtain ⟨y0, y1⟩ := H3.out.two 0 rfl
        have f0 := H3.out.free 0 rfl 0
        have f1 := H3.out.free 0 rfl 1
        have H4 := Tre.hid ((H3.out.setCell 0 rfl 0 (.slice aW g.ns.length cW)).setCell 0 rfl 1 (.int .i64 g.root))
        go_simp
        refine hK.out _ _ ?_
        clear hK K hH3
        try simp only [Act.put, List.setIfInBounds_toArray, List.set_cons_zero, List.set_cons_succ]
        refine lDone (by kernel_rfl) ?_
        go_wp2_with fail
        go_meet
        exact ⟨b3, _, rfl, ((H4.out.front 0 rfl).front 1 rfl)⟩
      · -- 3
        go_simp
        have H2 := Tre.hid (H1.out.allocR #[.slice none 0 0, .int .i64 0] 24)
        generalize hb : wq1.heap.size = b3 at H2 ⊢
        generalize hw : wq1.alloc (.cells #[.slice none 0 0, .int .i64 0] 24) = wq2 at H2 ⊢
        clear hb hw
        refine hK.out _ _ ?_ (fun hH4 => ?_)
        · exact H2.out.two 2 rfl
        clear hK K hH1
        try simp only [Act.put, List.setIfInBounds_toArray, List.set_cons_zero, List.set_cons_succ]
        refine lOne 5 (by kernel_rfl) (LStep.op (fun K hK => ?_))
        simp only [List.getElem?_toArray, List.getElem?_cons_succ, List.getElem?_cons_zero]
        rw [if_pos (by rfl)]
        refine wp_append_row _ _ _ 22 (by rfl) 33 ii _ 5 80 Try.underlying22 J1.out J2.out J3.out J4.out rfl (by omega) (.slice (some ⟨b15, 0, none⟩) 0 0) 0 [] (by rfl) (H2.out.row 1 rfl) a g.ns.length ca (dw.flatMap NodeV.cells) (by rfl) (DWR.out.below' H2.out.below) (cells_one _ (fun d hd => ⟨_, DWV.out d hd⟩)) (by unfold maxLen; omega) (by omega) ?_
        intro v' wq3 hown4 hgrow4 hat4
        simp only [Nat.zero_add, List.nil_append] at hown4
        have M4 := H2.out.grow 1 rfl hgrow4 hown4 hat4
        obtain ⟨aW, cW, rfl, _⟩ := M4.val 1 rfl
        have H3 := Tre.hid M4
        clear M4 hown4 hgrow4 hat4
        (try dsimp only)
        refine hK.out _ _ ?_ (fun hH5 => ?_)
        · exact H3.out.two 2 rfl
        clear hK K hH4
        try simp only [Act.put, List.setIfInBounds_toArray, List.set_cons_zero, List.set_cons_succ]
        refine lPure (i := 6) (some 19) (v := ?_) (by rfl) (by kernel_rfl) (by kernel_rfl) (by kernel_rfl) (by kernel_rfl) (fun _ _ _ h => h) (by rfl) ?_ (keep_of hH5) ?_
        rotate_left
        · intro w; simp only [List.getElem?_toArray, List.getElem?_cons_succ, List.getElem?_cons_zero, Option.map_some, Option.some.injEq]; (first | (go_simp; done) | (go_simp; with_reducible rfl))
        try simp only [Act.put, List.setIfInBounds_toArray, List.set_cons_zero, List.set_cons_succ]
        refine lOne 8 (by kernel_rfl) (LFall.op (by kernel_rfl) (fun K hK => ?_))
        obtain ⟨y0, y1⟩ := H3.out.two 0 rfl
        have f0 := H3.out.free 0 rfl 0
        have f1 := H3.out.free 0 rfl 1
        have H4 := Tre.hid ((H3.out.setCell 0 rfl 0 (.slice aW g.ns.length cW)).setCell 0 rfl 1 (.int .i64 g.root))
        go_simp
        refine hK.out _ _ ?_
        clear hK K hH5
        try simp only [Act.put, List.setIfInBounds_toArray, List.set_cons_zero, List.set_cons_succ]
        refine lDone (by kernel_rfl) ?_
        go_wp2_with fail
        go_meet
        exact ⟨b3, _, rfl, ((H4.out.front 0 rfl).front 1 rfl)⟩
    · -- 3
      go_simp
      have H1 := Tre.hid (H0.out.allocR #[.slice none 0 0, .int .i64 0] 24)
      generalize hb : wq0.heap.size = b3 at H1 ⊢
      generalize hw : wq0.alloc (.cells #[.slice none 0 0, .int .i64 0] 24) = wq1 at H1 ⊢
      clear hb hw
      refine hK.out _ _ ?_ (fun hH6 => ?_)
      · exact H1.out.two 1 rfl
      clear hK K hH0
      try simp only [Act.put, List.setIfInBounds_toArray, List.set_cons_zero, List.set_cons_succ]
      refine lOne 2 (by kernel_rfl) (LStep.op (fun K hK => ?_))
      go_simp
      have H2 := Tre.hid (H1.out.allocRow #[] 33 5 0 (by unfold maxLen; omega) rfl)
      generalize hb : wq1.heap.size = b15 at H2 ⊢
      generalize hw : wq1.alloc (.cells #[] 33) = wq2 at H2 ⊢
      clear hb hw
      refine hK.out _ _ ?_ (fun hH7 => ?_)
      · exact H2.out.two 2 rfl
      clear hK K hH6
      try simp only [Act.put, List.setIfInBounds_toArray, List.set_cons_zero, List.set_cons_succ]
      refine lOne 5 (by kernel_rfl) (LStep.op (fun K hK => ?_))
      simp only [List.getElem?_toArray, List.getElem?_cons_succ, List.getElem?_cons_zero]
      rw [if_pos (by rfl)]
      refine wp_append_row _ _ _ 22 (by rfl) 33 ii _ 5 80 Try.underlying22 J1.out J2.out J3.out J4.out rfl (by omega) (.slice (some ⟨b15, 0, none⟩) 0 0) 0 [] (by rfl) (H2.out.row 0 rfl) a g.ns.length ca (dw.flatMap NodeV.cells) (by rfl) (DWR.out.below' H2.out.below) (cells_one _ (fun d hd => ⟨_, DWV.out d hd⟩)) (by unfold maxLen; omega) (by omega) ?_
      intro v' wq3 hown4 hgrow4 hat4
      simp only [Nat.zero_add, List.nil_append] at hown4
      have M4 := H2.out.grow 0 rfl hgrow4 hown4 hat4
      obtain ⟨aW, cW, rfl, _⟩ := M4.val 0 rfl
      have H3 := Tre.hid M4
      clear M4 hown4 hgrow4 hat4
      (try dsimp only)
      refine hK.out _ _ ?_ (fun hH8 => ?_)
      · exact H3.out.two 2 rfl
      clear hK K hH7
      try simp only [Act.put, List.setIfInBounds_toArray, List.set_cons_zero, List.set_cons_succ]
      refine lPure (i := 6) (some 19) (v := ?_) (by rfl) (by kernel_rfl) (by kernel_rfl) (by kernel_rfl) (by kernel_rfl) (fun _ _ _ h => h) (by rfl) ?_ (keep_of hH8) ?_
      rotate_left
      · intro w; simp only [List.getElem?_toArray, List.getElem?_cons_succ, List.getElem?_cons_zero, Option.map_some, Option.some.injEq]; (first | (go_simp; done) | (go_simp; with_reducible rfl))
      try simp only [Act.put, List.setIfInBounds_toArray, List.set_cons_zero, List.set_cons_succ]
      refine lOne 8 (by kernel_rfl) (LFall.op (by kernel_rfl) (fun K hK => ?_))
      obtain ⟨y0, y1⟩ := H3.out.two 1 rfl
      have f0 := H3.out.free 1 rfl 0
      have f1 := H3.out.free 1 rfl 1
      have H4 := Tre.hid ((H3.out.setCell 1 rfl 0 (.slice aW g.ns.length cW)).setCell 1 rfl 1 (.int .i64 g.root))
      go_simp
      refine hK.out _ _ ?_
      clear hK K hH8
      try simp only [Act.put, List.setIfInBounds_toArray, List.set_cons_zero, List.set_cons_succ]
      refine lDone (by kernel_rfl) ?_
      go_wp2_with fail
      go_meet
      exact ⟨b3, _, rfl, H4.out⟩
  case rest =>
    obtain ⟨B3, vW, rfl, hM⟩ := hcut
    clear g0 g1
    obtain ⟨g0, g1⟩ := hM.out.two 2 rfl
    go_upto_region 6 with fail
    go_cut [4, 5] (fun s4 s5 wx => ∃ (B4 B5 : Nat) (va vb : Value) (dsa dsb : List NodeV), s4 = .pointer (some ⟨B4, 0, none⟩) ∧ s5 = .pointer (some ⟨B5, 0, none⟩) ∧ Hid (dsa.map NodeV.n = g.trim.ns) ∧ Hid (dsb.map NodeV.n = g.trim.ns) ∧ Hid (Mem w wx [nodesR va dsa, kidsR dsa, nodesR vb dsb, kidsR dsb, cellsR B4 24 #[va, .int .i64 0], cellsR B5 24 #[vb, .int .i64 0], rowR 33 5 vW g.ns.length (dw.flatMap NodeV.cells), cellsR B3 24 #[vW, .int .i64 g.root], cellsR w.heap.size 24 #[.slice a g.ns.length ca, .int .i64 g.root]]))
    case first =>
      refine wp_region_keep (S := (fun w' => w'.cell? ⟨w.heap.size, 0, none⟩ = some (.slice a g.ns.length ca) ∧ w'.cell? ⟨w.heap.size, 1, none⟩ = some (.int .i64 g.root))) [3, 6, 7] (by kernel_rfl) ?_ (fun hH0 => ?_)
      · exact ⟨g0, g1⟩
      have H0 := Tre.hid hM.out.drew
      generalize hq : wc.drew = wq0 at H0 hH0 ⊢
      clear hq
      refine lTake (i := 0) (some 20) (v := ?_) (by rfl) (by kernel_rfl) (by kernel_rfl) (by kernel_rfl) (by kernel_rfl) (by kernel_rfl) (fun _ _ _ h => h) (by rfl) ?_ hH0 ?_
      rotate_left
      · intro w hSw; (try dsimp only at hSw); simp only [List.getElem?_toArray, List.getElem?_cons_zero, Option.map_some, Option.some.injEq]; (first | (go_simp; done) | (go_simp; with_reducible rfl))
      try simp only [Act.put, List.setIfInBounds_toArray, List.set_cons_zero, List.set_cons_succ]
      refine lTake (i := 2) (some 22) (v := ?_) (by rfl) (by kernel_rfl) (by kernel_rfl) (by kernel_rfl) (by kernel_rfl) (by kernel_rfl) (fun _ _ _ h => h) (by rfl) ?_ hH0 ?_
      rotate_left
      · intro w hSw; (try dsimp only at hSw); simp only [List.getElem?_toArray, List.getElem?_cons_succ, List.getElem?_cons_zero, Option.map_some, Option.some.injEq]; (first | (go_simp; done) | (go_simp; with_reducible rfl))
      try simp only [Act.put, List.setIfInBounds_toArray, List.set_cons_zero, List.set_cons_succ]
      refine lThree 1 4 5 (by kernel_rfl) (LStep.op (fun K hK => ?_)) (LStep.op (fun K hK => ?_)) (LStep.op (fun K hK => ?_))
      · -- 21
        go_simp
        refine (trim_any a ca g _ (HG.out.below H0.out.below) (by omega) (HM.out.below H0.out.below)).mono ?_
        rintro e wq1 ⟨va, dsa, rfl, hda, ma⟩
        have HDa := Tre.hid hda
        have M4 := H0.out.call ma
        obtain ⟨aa, qa, rfl, _⟩ := M4.val 0 rfl
        have H1 := Tre.hid M4
        clear M4 hda ma
        (try dsimp only)
        refine hK.out _ _ ?_ (fun hH1 => ?_)
        · exact H1.out.two 4 rfl
        clear hK K hH0
        try simp only [Act.put, List.setIfInBounds_toArray, List.set_cons_zero, List.set_cons_succ]
        refine lThree 3 4 5 (by kernel_rfl) (LFall.op (by kernel_rfl) (fun K hK => ?_)) (LStep.op (fun K hK => ?_)) (LStep.op (fun K hK => ?_))
        · -- 23
          go_simp
          refine (refTrim a ca g _ (HG.out.below H1.out.below) (by omega)).mono ?_
          rintro e wq2 ⟨vb, dsb, rfl, hdb, mb⟩
          have HDb := Tre.hid hdb
          have M4 := H1.out.call mb
          obtain ⟨ab, qb, rfl, _⟩ := M4.val 0 rfl
          have H2 := Tre.hid M4
          clear M4 hdb mb
          (try dsimp only)
          refine hK.out _ _ ?_
          clear hK K hH1
          try simp only [Act.put, List.setIfInBounds_toArray, List.set_cons_zero, List.set_cons_succ]
          refine lTwo 4 5 (by kernel_rfl) (LFall.op (by kernel_rfl) (fun K hK => ?_)) (LFall.op (by kernel_rfl) (fun K hK => ?_))
          · -- 4
            go_simp
            have H3 := Tre.hid (H2.out.allocR #[.slice none 0 0, .int .i64 0] 24)
            generalize hb : wq2.heap.size = b4 at H3 ⊢
            generalize hw : wq2.alloc (.cells #[.slice none 0 0, .int .i64 0] 24) = wq3 at H3 ⊢
            clear hb hw
            refine hK.out _ _ ?_
            clear hK K
            try simp only [Act.put, List.setIfInBounds_toArray, List.set_cons_zero, List.set_cons_succ]
            refine lOne 5 (by kernel_rfl) (LFall.op (by kernel_rfl) (fun K hK => ?_))
            go_simp
            have H4 := Tre.hid (H3.out.allocR #[.slice none 0 0, .int .i64 0] 24)
            generalize hb : wq3.heap.size = b5 at H4 ⊢
            generalize hw : wq3.alloc (.cells #[.slice none 0 0, .int .i64 0] 24) = wq4 at H4 ⊢
            clear hb hw
            refine hK.out _ _ ?_
            clear hK K
            try simp only [Act.put, List.setIfInBounds_toArray, List.set_cons_zero, List.set_cons_succ]
            refine lOne 6 (by kernel_rfl) (LFall.op (by kernel_rfl) (fun K hK => ?_))
            obtain ⟨y0, y1⟩ := H4.out.two 1 rfl
            have f0 := H4.out.free 1 rfl 0
            have f1 := H4.out.free 1 rfl 1
            have H5 := Tre.hid ((H4.out.setCell 1 rfl 0 (.slice aa dsa.length qa)).setCell 1 rfl 1 (.int .i64 0))
            go_simp
            generalize hw : (wq4.setCell ⟨b4, 0, none⟩ (.slice aa dsa.length qa)).setCell ⟨b4, 1, none⟩ (.int .i64 0) = wq5 at H5 ⊢
            clear hw y0 y1 f0 f1
            refine hK.out _ _ ?_
            clear hK K
            try simp only [Act.put, List.setIfInBounds_toArray, List.set_cons_zero, List.set_cons_succ]
            refine lOne 7 (by kernel_rfl) (LFall.op (by kernel_rfl) (fun K hK => ?_))
            obtain ⟨y0, y1⟩ := H5.out.two 0 rfl
            have f0 := H5.out.free 0 rfl 0
            have f1 := H5.out.free 0 rfl 1
            have H6 := Tre.hid ((H5.out.setCell 0 rfl 0 (.slice ab dsb.length qb)).setCell 0 rfl 1 (.int .i64 0))
            go_simp
            generalize hw : (wq5.setCell ⟨b5, 0, none⟩ (.slice ab dsb.length qb)).setCell ⟨b5, 1, none⟩ (.int .i64 0) = wq6 at H6 ⊢
            clear hw y0 y1 f0 f1
            refine hK.out _ _ ?_
            clear hK K
            try simp only [Act.put, List.setIfInBounds_toArray, List.set_cons_zero, List.set_cons_succ]
            refine lDone (by kernel_rfl) ?_
            go_wp2_with fail
            go_meet
            exact ⟨b4, b5, _, _, dsa, dsb, rfl, rfl, HDa.out, HDb.out, ((((((H6.out.front 0 rfl).front 1 rfl).front 3 rfl).front 3 rfl).front 5 rfl).front 5 rfl)⟩
          · -- 5
            go_simp
            have H3 := Tre.hid (H2.out.allocR #[.slice none 0 0, .int .i64 0] 24)
            generalize hb : wq2.heap.size = b5 at H3 ⊢
            generalize hw : wq2.alloc (.cells #[.slice none 0 0, .int .i64 0] 24) = wq3 at H3 ⊢
            clear hb hw
            refine hK.out _ _ ?_
            clear hK K
            try simp only [Act.put, List.setIfInBounds_toArray, List.set_cons_zero, List.set_cons_succ]
            refine lOne 4 (by kernel_rfl) (LFall.op (by kernel_rfl) (fun K hK => ?_))
            go_simp
            have H4 := Tre.hid (H3.out.allocR #[.slice none 0 0, .int .i64 0] 24)
            generalize hb : wq3.heap.size = b4 at H4 ⊢
            generalize hw : wq3.alloc (.cells #[.slice none 0 0, .int .i64 0] 24) = wq4 at H4 ⊢
            clear hb hw
            refine hK.out _ _ ?_
            clear hK K
            try simp only [Act.put, List.setIfInBounds_toArray, List.set_cons_zero, List.set_cons_succ]
            refine lOne 6 (by kernel_rfl) (LFall.op (by kernel_rfl) (fun K hK => ?_))
            obtain ⟨y0, y1⟩ := H4.out.two 0 rfl
            have f0 := H4.out.free 0 rfl 0
            have f1 := H4.out.free 0 rfl 1
            have H5 := Tre.hid ((H4.out.setCell 0 rfl 0 (.slice aa dsa.length qa)).setCell 0 rfl 1 (.int .i64 0))
            go_simp
            generalize hw : (wq4.setCell ⟨b4, 0, none⟩ (.slice aa dsa.length qa)).setCell ⟨b4, 1, none⟩ (.int .i64 0) = wq5 at H5 ⊢
            clear hw y0 y1 f0 f1
            refine hK.out _ _ ?_
            clear hK K
            try simp only [Act.put, List.setIfInBounds_toArray, List.set_cons_zero, List.set_cons_succ]
            refine lOne 7 (by kernel_rfl) (LFall.op (by kernel_rfl) (fun K hK => ?_))
            obtain ⟨y0, y1⟩ := H5.out.two 1 rfl
            have f0 := H5.out.free 1 rfl 0
            have f1 := H5.out.free 1 rfl 1
            have H6 := Tre.hid ((H5.out.setCell 1 rfl 0 (.slice ab dsb.length qb)).setCell 1 rfl 1 (.int .i64 0))
            go_simp
            generalize hw : (wq5.setCell ⟨b5, 0, none⟩ (.slice ab dsb.length qb)).setCell ⟨b5, 1, none⟩ (.int .i64 0) = wq6 at H6 ⊢
            clear hw y0 y1 f0 f1
            refine hK.out _ _ ?_
            clear hK K
            try simp only [Act.put, List.setIfInBounds_toArray, List.set_cons_zero, List.set_cons_succ]
            refine lDone (by kernel_rfl) ?_
            go_wp2_with fail
            go_meet
            exact ⟨b4, b5, _, _, dsa, dsb, rfl, rfl, HDa.out, HDb.out, ((((((H6.out.front 1 rfl).front 1 rfl).front 3 rfl).front 3 rfl).front 5 rfl).front 5 rfl)⟩
        · -- 4
          go_simp
          have H2 := Tre.hid (H1.out.allocR #[.slice none 0 0, .int .i64 0] 24)
          generalize hb : wq1.heap.size = b4 at H2 ⊢
          generalize hw : wq1.alloc (.cells #[.slice none 0 0, .int .i64 0] 24) = wq2 at H2 ⊢
          clear hb hw
          refine hK.out _ _ ?_ (fun hH2 => ?_)
          · exact H2.out.two 5 rfl
          clear hK K hH1
          try simp only [Act.put, List.setIfInBounds_toArray, List.set_cons_zero, List.set_cons_succ]
          refine lTwo 3 5 (by kernel_rfl) (LFall.op (by kernel_rfl) (fun K hK => ?_)) (LStep.op (fun K hK => ?_))
          · -- 23
            go_simp
            refine (refTrim a ca g _ (HG.out.below H2.out.below) (by omega)).mono ?_
            rintro e wq3 ⟨vb, dsb, rfl, hdb, mb⟩
            have HDb := Tre.hid hdb
            have M4 := H2.out.call mb
            obtain ⟨ab, qb, rfl, _⟩ := M4.val 0 rfl
            have H3 := Tre.hid M4
            clear M4 hdb mb
            (try dsimp only)
            refine hK.out _ _ ?_
            clear hK K hH2
            try simp only [Act.put, List.setIfInBounds_toArray, List.set_cons_zero, List.set_cons_succ]
            refine lOne 5 (by kernel_rfl) (LFall.op (by kernel_rfl) (fun K hK => ?_))
            go_simp
            have H4 := Tre.hid (H3.out.allocR #[.slice none 0 0, .int .i64 0] 24)
            generalize hb : wq3.heap.size = b5 at H4 ⊢
            generalize hw : wq3.alloc (.cells #[.slice none 0 0, .int .i64 0] 24) = wq4 at H4 ⊢
            clear hb hw
            refine hK.out _ _ ?_
            clear hK K
            try simp only [Act.put, List.setIfInBounds_toArray, List.set_cons_zero, List.set_cons_succ]
            refine lOne 6 (by kernel_rfl) (LFall.op (by kernel_rfl) (fun K hK => ?_))
            obtain ⟨y0, y1⟩ := H4.out.two 3 rfl
            have f0 := H4.out.free 3 rfl 0
            have f1 := H4.out.free 3 rfl 1
            have H5 := Tre.hid ((H4.out.setCell 3 rfl 0 (.slice aa dsa.length qa)).setCell 3 rfl 1 (.int .i64 0))
            go_simp
            generalize hw : (wq4.setCell ⟨b4, 0, none⟩ (.slice aa dsa.length qa)).setCell ⟨b4, 1, none⟩ (.int .i64 0) = wq5 at H5 ⊢
            clear hw y0 y1 f0 f1
            refine hK.out _ _ ?_
            clear hK K
            try simp only [Act.put, List.setIfInBounds_toArray, List.set_cons_zero, List.set_cons_succ]
            refine lOne 7 (by kernel_rfl) (LFall.op (by kernel_rfl) (fun K hK => ?_))
            obtain ⟨y0, y1⟩ := H5.out.two 0 rfl
            have f0 := H5.out.free 0 rfl 0
            have f1 := H5.out.free 0 rfl 1
            have H6 := Tre.hid ((H5.out.setCell 0 rfl 0 (.slice ab dsb.length qb)).setCell 0 rfl 1 (.int .i64 0))
            go_simp
            generalize hw : (wq5.setCell ⟨b5, 0, none⟩ (.slice ab dsb.length qb)).setCell ⟨b5, 1, none⟩ (.int .i64 0) = wq6 at H6 ⊢
            clear hw y0 y1 f0 f1
            refine hK.out _ _ ?_
            clear hK K
            try simp only [Act.put, List.setIfInBounds_toArray, List.set_cons_zero, List.set_cons_succ]
            refine lDone (by kernel_rfl) ?_
            go_wp2_with fail
            go_meet
            exact ⟨b4, b5, _, _, dsa, dsb, rfl, rfl, HDa.out, HDb.out, ((((((H6.out.front 0 rfl).front 3 rfl).front 3 rfl).front 3 rfl).front 5 rfl).front 5 rfl)⟩
          · -- 5
            go_simp
            have H3 := Tre.hid (H2.out.allocR #[.slice none 0 0, .int .i64 0] 24)
            generalize hb : wq2.heap.size = b5 at H3 ⊢
            generalize hw : wq2.alloc (.cells #[.slice none 0 0, .int .i64 0] 24) = wq3 at H3 ⊢
            clear hb hw
            refine hK.out _ _ ?_ (fun hH3 => ?_)
            · exact H3.out.two 6 rfl
            clear hK K hH2
            try simp only [Act.put, List.setIfInBounds_toArray, List.set_cons_zero, List.set_cons_succ]
            refine lOne 3 (by kernel_rfl) (LFall.op (by kernel_rfl) (fun K hK => ?_))
            go_simp
            refine (refTrim a ca g _ (HG.out.below H3.out.below) (by omega)).mono ?_
            rintro e wq4 ⟨vb, dsb, rfl, hdb, mb⟩
            have HDb := Tre.hid hdb
            have M4 := H3.out.call mb
            obtain ⟨ab, qb, rfl, _⟩ := M4.val 0 rfl
            have H4 := Tre.hid M4
            clear M4 hdb mb
            (try dsimp only)
            refine hK.out _ _ ?_
            clear hK K hH3
            try simp only [Act.put, List.setIfInBounds_toArray, List.set_cons_zero, List.set_cons_succ]
            refine lOne 6 (by kernel_rfl) (LFall.op (by kernel_rfl) (fun K hK => ?_))
            obtain ⟨y0, y1⟩ := H4.out.two 3 rfl
            have f0 := H4.out.free 3 rfl 0
            have f1 := H4.out.free 3 rfl 1
            have H5 := Tre.hid ((H4.out.setCell 3 rfl 0 (.slice aa dsa.length qa)).setCell 3 rfl 1 (.int .i64 0))
            go_simp
            generalize hw : (wq4.setCell ⟨b4, 0, none⟩ (.slice aa dsa.length qa)).setCell ⟨b4, 1, none⟩ (.int .i64 0) = wq5 at H5 ⊢
            clear hw y0 y1 f0 f1
            refine hK.out _ _ ?_
            clear hK K
            try simp only [Act.put, List.setIfInBounds_toArray, List.set_cons_zero, List.set_cons_succ]
            refine lOne 7 (by kernel_rfl) (LFall.op (by kernel_rfl) (fun K hK => ?_))
            obtain ⟨y0, y1⟩ := H5.out.two 2 rfl
            have f0 := H5.out.free 2 rfl 0
            have f1 := H5.out.free 2 rfl 1
            have H6 := Tre.hid ((H5.out.setCell 2 rfl 0 (.slice ab dsb.length qb)).setCell 2 rfl 1 (.int .i64 0))
            go_simp
            generalize hw : (wq5.setCell ⟨b5, 0, none⟩ (.slice ab dsb.length qb)).setCell ⟨b5, 1, none⟩ (.int .i64 0) = wq6 at H6 ⊢
            clear hw y0 y1 f0 f1
            refine hK.out _ _ ?_
            clear hK K
            try simp only [Act.put, List.setIfInBounds_toArray, List.set_cons_zero, List.set_cons_succ]
            refine lDone (by kernel_rfl) ?_
            go_wp2_with fail
            go_meet
            exact ⟨b4, b5, _, _, dsa, dsb, rfl, rfl, HDa.out, HDb.out, ((((((H6.out.front 2 rfl).front 3 rfl).front 3 rfl).front 3 rfl).front 5 rfl).front 5 rfl)⟩
        · -- 5
          go_simp
          have H2 := Tre.hid (H1.out.allocR #[.slice none 0 0, .int .i64 0] 24)
          generalize hb : wq1.heap.size = b5 at H2 ⊢
          generalize hw : wq1.alloc (.cells #[.slice none 0 0, .int .i64 0] 24) = wq2 at H2 ⊢
          clear hb hw
          refine hK.out _ _ ?_ (fun hH4 => ?_)
          · exact H2.out.two 5 rfl
          clear hK K hH1
          try simp only [Act.put, List.setIfInBounds_toArray, List.set_cons_zero, List.set_cons_succ]
          refine lTwo 3 4 (by kernel_rfl) (LFall.op (by kernel_rfl) (fun K hK => ?_)) (LStep.op (fun K hK => ?_))
          · -- 23
            go_simp
            refine (refTrim a ca g _ (HG.out.below H2.out.below) (by omega)).mono ?_
            rintro e wq3 ⟨vb, dsb, rfl, hdb, mb⟩
            have HDb := Tre.hid hdb
            have M4 := H2.out.call mb
            obtain ⟨ab, qb, rfl, _⟩ := M4.val 0 rfl
            have H3 := Tre.hid M4
            clear M4 hdb mb
            (try dsimp only)
            refine hK.out _ _ ?_
            clear hK K hH4
            try simp only [Act.put, List.setIfInBounds_toArray, List.set_cons_zero, List.set_cons_succ]
            refine lOne 4 (by kernel_rfl) (LFall.op (by kernel_rfl) (fun K hK => ?_))
            go_simp
            have H4 := Tre.hid (H3.out.allocR #[.slice none 0 0, .int .i64 0] 24)
            generalize hb : wq3.heap.size = b4 at H4 ⊢
            generalize hw : wq3.alloc (.cells #[.slice none 0 0, .int .i64 0] 24) = wq4 at H4 ⊢
            clear hb hw
            refine hK.out _ _ ?_
            clear hK K
            try simp only [Act.put, List.setIfInBounds_toArray, List.set_cons_zero, List.set_cons_succ]
            refine lOne 6 (by kernel_rfl) (LFall.op (by kernel_rfl) (fun K hK => ?_))
            obtain ⟨y0, y1⟩ := H4.out.two 0 rfl
            have f0 := H4.out.free 0 rfl 0
            have f1 := H4.out.free 0 rfl 1
            have H5 := Tre.hid ((H4.out.setCell 0 rfl 0 (.slice aa dsa.length qa)).setCell 0 rfl 1 (.int .i64 0))
            go_simp
            generalize hw : (wq4.setCell ⟨b4, 0, none⟩ (.slice aa dsa.length qa)).setCell ⟨b4, 1, none⟩ (.int .i64 0) = wq5 at H5 ⊢
            clear hw y0 y1 f0 f1
            refine hK.out _ _ ?_
            clear hK K
            try simp only [Act.put, List.setIfInBounds_toArray, List.set_cons_zero, List.set_cons_succ]
            refine lOne 7 (by kernel_rfl) (LFall.op (by kernel_rfl) (fun K hK => ?_))
            obtain ⟨y0, y1⟩ := H5.out.two 3 rfl
            have f0 := H5.out.free 3 rfl 0
            have f1 := H5.out.free 3 rfl 1
            have H6 := Tre.hid ((H5.out.setCell 3 rfl 0 (.slice ab dsb.length qb)).setCell 3 rfl 1 (.int .i64 0))
            go_simp
            generalize hw : (wq5.setCell ⟨b5, 0, none⟩ (.slice ab dsb.length qb)).setCell ⟨b5, 1, none⟩ (.int .i64 0) = wq6 at H6 ⊢
            clear hw y0 y1 f0 f1
            refine hK.out _ _ ?_
            clear hK K
            try simp only [Act.put, List.setIfInBounds_toArray, List.set_cons_zero, List.set_cons_succ]
            refine lDone (by kernel_rfl) ?_
            go_wp2_with fail
            go_meet
            exact ⟨b4, b5, _, _, dsa, dsb, rfl, rfl, HDa.out, HDb.out, ((((((H6.out.front 3 rfl).front 1 rfl).front 3 rfl).front 3 rfl).front 5 rfl).front 5 rfl)⟩
          · -- 4
            go_simp
            have H3 := Tre.hid (H2.out.allocR #[.slice none 0 0, .int .i64 0] 24)
            generalize hb : wq2.heap.size = b4 at H3 ⊢
            generalize hw : wq2.alloc (.cells #[.slice none 0 0, .int .i64 0] 24) = wq3 at H3 ⊢
            clear hb hw
            refine hK.out _ _ ?_ (fun hH5 => ?_)
            · exact H3.out.two 6 rfl
            clear hK K hH4
            try simp only [Act.put, List.setIfInBounds_toArray, List.set_cons_zero, List.set_cons_succ]
            refine lOne 3 (by kernel_rfl) (LFall.op (by kernel_rfl) (fun K hK => ?_))
            go_simp
            refine (refTrim a ca g _ (HG.out.below H3.out.below) (by omega)).mono ?_
            rintro e wq4 ⟨vb, dsb, rfl, hdb, mb⟩
            have HDb := Tre.hid hdb
            have M4 := H3.out.call mb
            obtain ⟨ab, qb, rfl, _⟩ := M4.val 0 rfl
            have H4 := Tre.hid M4
            clear M4 hdb mb
            (try dsimp only)
            refine hK.out _ _ ?_
            clear hK K hH5
            try simp only [Act.put, List.setIfInBounds_toArray, List.set_cons_zero, List.set_cons_succ]
            refine lOne 6 (by kernel_rfl) (LFall.op (by kernel_rfl) (fun K hK => ?_))
            obtain ⟨y0, y1⟩ := H4.out.two 2 rfl
            have f0 := H4.out.free 2 rfl 0
            have f1 := H4.out.free 2 rfl 1
            have H5 := Tre.hid ((H4.out.setCell 2 rfl 0 (.slice aa dsa.length qa)).setCell 2 rfl 1 (.int .i64 0))
            go_simp
            generalize hw : (wq4.setCell ⟨b4, 0, none⟩ (.slice aa dsa.length qa)).setCell ⟨b4, 1, none⟩ (.int .i64 0) = wq5 at H5 ⊢
            clear hw y0 y1 f0 f1
            refine hK.out _ _ ?_
            clear hK K
            try simp only [Act.put, List.setIfInBounds_toArray, List.set_cons_zero, List.set_cons_succ]
            refine lOne 7 (by kernel_rfl) (LFall.op (by kernel_rfl) (fun K hK => ?_))
            obtain ⟨y0, y1⟩ := H5.out.two 3 rfl
            have f0 := H5.out.free 3 rfl 0
            have f1 := H5.out.free 3 rfl 1
            have H6 := Tre.hid ((H5.out.setCell 3 rfl 0 (.slice ab dsb.length qb)).setCell 3 rfl 1 (.int .i64 0))
            go_simp
            generalize hw : (wq5.setCell ⟨b5, 0, none⟩ (.slice ab dsb.length qb)).setCell ⟨b5, 1, none⟩ (.int .i64 0) = wq6 at H6 ⊢
            clear hw y0 y1 f0 f1
            refine hK.out _ _ ?_
            clear hK K
            try simp only [Act.put, List.setIfInBounds_toArray, List.set_cons_zero, List.set_cons_succ]
            refine lDone (by kernel_rfl) ?_
            go_wp2_with fail
            go_meet
            exact ⟨b4, b5, _, _, dsa, dsb, rfl, rfl, HDa.out, HDb.out, ((((((H6.out.front 3 rfl).front 3 rfl).front 3 rfl).front 3 rfl).front 5 rfl).front 5 rfl)⟩
      · -- 4
        go_simp
        have H1 := Tre.hid (H0.out.allocR #[.slice none 0 0, .int .i64 0] 24)
        generalize hb : wq0.heap.size = b4 at H1 ⊢
        generalize hw : wq0.alloc (.cells #[.slice none 0 0, .int .i64 0] 24) = wq1 at H1 ⊢
        clear hb hw
        refine hK.out _ _ ?_ (fun hH6 => ?_)
        · exact H1.out.two 3 rfl
        clear hK K hH0
        try simp only [Act.put, List.setIfInBounds_toArray, List.set_cons_zero, List.set_cons_succ]
        refine lTwo 1 5 (by kernel_rfl) (LStep.op (fun K hK => ?_)) (LStep.op (fun K hK => ?_))
        · -- 21
          go_simp
          refine (trim_any a ca g _ (HG.out.below H1.out.below) (by omega) (HM.out.below H1.out.below)).mono ?_
          rintro e wq2 ⟨va, dsa, rfl, hda, ma⟩
          have HDa := Tre.hid hda
          have M4 := H1.out.call ma
          obtain ⟨aa, qa, rfl, _⟩ := M4.val 0 rfl
          have H2 := Tre.hid M4
          clear M4 hda ma
          (try dsimp only)
          refine hK.out _ _ ?_ (fun hH7 => ?_)
          · exact H2.out.two 5 rfl
          clear hK K hH6
          try simp only [Act.put, List.setIfInBounds_toArray, List.set_cons_zero, List.set_cons_succ]
          refine lTwo 3 5 (by kernel_rfl) (LFall.op (by kernel_rfl) (fun K hK => ?_)) (LStep.op (fun K hK => ?_))
          · -- 23
            go_simp
            refine (refTrim a ca g _ (HG.out.below H2.out.below) (by omega)).mono ?_
            rintro e wq3 ⟨vb, dsb, rfl, hdb, mb⟩
            have HDb := Tre.hid hdb
            have M4 := H2.out.call mb
            obtain ⟨ab, qb, rfl, _⟩ := M4.val 0 rfl
            have H3 := Tre.hid M4
            clear M4 hdb mb
            (try dsimp only)
            refine hK.out _ _ ?_
            clear hK K hH7
            try simp only [Act.put, List.setIfInBounds_toArray, List.set_cons_zero, List.set_cons_succ]
            refine lOne 5 (by kernel_rfl) (LFall.op (by kernel_rfl) (fun K hK => ?_))
            go_simp
            have H4 := Tre.hid (H3.out.allocR #[.slice none 0 0, .int .i64 0] 24)
            generalize hb : wq3.heap.size = b5 at H4 ⊢
            generalize hw : wq3.alloc (.cells #[.slice none 0 0, .int .i64 0] 24) = wq4 at H4 ⊢
            clear hb hw
            refine hK.out _ _ ?_
            clear hK K
            try simp only [Act.put, List.setIfInBounds_toArray, List.set_cons_zero, List.set_cons_succ]
            refine lOne 6 (by kernel_rfl) (LFall.op (by kernel_rfl) (fun K hK => ?_))
            obtain ⟨y0, y1⟩ := H4.out.two 5 rfl
            have f0 := H4.out.free 5 rfl 0
            have f1 := H4.out.free 5 rfl 1
            have H5 := Tre.hid ((H4.out.setCell 5 rfl 0 (.slice aa dsa.length qa)).setCell 5 rfl 1 (.int .i64 0))
            go_simp
            generalize hw : (wq4.setCell ⟨b4, 0, none⟩ (.slice aa dsa.length qa)).setCell ⟨b4, 1, none⟩ (.int .i64 0) = wq5 at H5 ⊢
            clear hw y0 y1 f0 f1
            refine hK.out _ _ ?_
            clear hK K
            try simp only [Act.put, List.setIfInBounds_toArray, List.set_cons_zero, List.set_cons_succ]
            refine lOne 7 (by kernel_rfl) (LFall.op (by kernel_rfl) (fun K hK => ?_))
            obtain ⟨y0, y1⟩ := H5.out.two 0 rfl
            have f0 := H5.out.free 0 rfl 0
            have f1 := H5.out.free 0 rfl 1
            have H6 := Tre.hid ((H5.out.setCell 0 rfl 0 (.slice ab dsb.length qb)).setCell 0 rfl 1 (.int .i64 0))
            go_simp
            generalize hw : (wq5.setCell ⟨b5, 0, none⟩ (.slice ab dsb.length qb)).setCell ⟨b5, 1, none⟩ (.int .i64 0) = wq6 at H6 ⊢
            clear hw y0 y1 f0 f1
            refine hK.out _ _ ?_
            clear hK K
            try simp only [Act.put, List.setIfInBounds_toArray, List.set_cons_zero, List.set_cons_succ]
            refine lDone (by kernel_rfl) ?_
            go_wp2_with fail
            go_meet
            exact ⟨b4, b5, _, _, dsa, dsb, rfl, rfl, HDa.out, HDb.out, ((((((H6.out.front 0 rfl).front 5 rfl).front 3 rfl).front 3 rfl).front 5 rfl).front 5 rfl)⟩
          · -- 5
            go_simp
            have H3 := Tre.hid (H2.out.allocR #[.slice none 0 0, .int .i64 0] 24)
            generalize hb : wq2.heap.size = b5 at H3 ⊢
            generalize hw : wq2.alloc (.cells #[.slice none 0 0, .int .i64 0] 24) = wq3 at H3 ⊢
            clear hb hw
            refine hK.out _ _ ?_ (fun hH8 => ?_)
            · exact H3.out.two 6 rfl
            clear hK K hH7
            try simp only [Act.put, List.setIfInBounds_toArray, List.set_cons_zero, List.set_cons_succ]
            refine lOne 3 (by kernel_rfl) (LFall.op (by kernel_rfl) (fun K hK => ?_))
            go_simp
            refine (refTrim a ca g _ (HG.out.below H3.out.below) (by omega)).mono ?_
            rintro e wq4 ⟨vb, dsb, rfl, hdb, mb⟩
            have HDb := Tre.hid hdb
            have M4 := H3.out.call mb
            obtain ⟨ab, qb, rfl, _⟩ := M4.val 0 rfl
            have H4 := Tre.hid M4
            clear M4 hdb mb
            (try dsimp only)
            refine hK.out _ _ ?_
            clear hK K hH8
            try simp only [Act.put, List.setIfInBounds_toArray, List.set_cons_zero, List.set_cons_succ]
            refine lOne 6 (by kernel_rfl) (LFall.op (by kernel_rfl) (fun K hK => ?_))
            obtain ⟨y0, y1⟩ := H4.out.two 5 rfl
            have f0 := H4.out.free 5 rfl 0
            have f1 := H4.out.free 5 rfl 1
            have H5 := Tre.hid ((H4.out.setCell 5 rfl 0 (.slice aa dsa.length qa)).setCell 5 rfl 1 (.int .i64 0))
            go_simp
            generalize hw : (wq4.setCell ⟨b4, 0, none⟩ (.slice aa dsa.length qa)).setCell ⟨b4, 1, none⟩ (.int .i64 0) = wq5 at H5 ⊢
            clear hw y0 y1 f0 f1
            refine hK.out _ _ ?_
            clear hK K
            try simp only [Act.put, List.setIfInBounds_toArray, List.set_cons_zero, List.set_cons_succ]
            refine lOne 7 (by kernel_rfl) (LFall.op (by kernel_rfl) (fun K hK => ?_))
            obtain ⟨y0, y1⟩ := H5.out.two 2 rfl
            have f0 := H5.out.free 2 rfl 0
            have f1 := H5.out.free 2 rfl 1
            have H6 := Tre.hid ((H5.out.setCell 2 rfl 0 (.slice ab dsb.length qb)).setCell 2 rfl 1 (.int .i64 0))
            go_simp
            generalize hw : (wq5.setCell ⟨b5, 0, none⟩ (.slice ab dsb.length qb)).setCell ⟨b5, 1, none⟩ (.int .i64 0) = wq6 at H6 ⊢
            clear hw y0 y1 f0 f1
            refine hK.out _ _ ?_
            clear hK K
            try simp only [Act.put, List.setIfInBounds_toArray, List.set_cons_zero, List.set_cons_succ]
            refine lDone (by kernel_rfl) ?_
            go_wp2_with fail
            go_meet
            exact ⟨b4, b5, _, _, dsa, dsb, rfl, rfl, HDa.out, HDb.out, ((((((H6.out.front 2 rfl).front 5 rfl).front 3 rfl).front 3 rfl).front 5 rfl).front 5 rfl)⟩
        · -- 5
          go_simp
          have H2 := Tre.hid (H1.out.allocR #[.slice none 0 0, .int .i64 0] 24)
          generalize hb : wq1.heap.size = b5 at H2 ⊢
          generalize hw : wq1.alloc (.cells #[.slice none 0 0, .int .i64 0] 24) = wq2 at H2 ⊢
          clear hb hw
          refine hK.out _ _ ?_ (fun hH9 => ?_)
          · exact H2.out.two 4 rfl
          clear hK K hH6
          try simp only [Act.put, List.setIfInBounds_toArray, List.set_cons_zero, List.set_cons_succ]
          refine lOne 1 (by kernel_rfl) (LStep.op (fun K hK => ?_))
          go_simp
          refine (trim_any a ca g _ (HG.out.below H2.out.below) (by omega) (HM.out.below H2.out.below)).mono ?_
          rintro e wq3 ⟨va, dsa, rfl, hda, ma⟩
          have HDa := Tre.hid hda
          have M4 := H2.out.call ma
          obtain ⟨aa, qa, rfl, _⟩ := M4.val 0 rfl
          have H3 := Tre.hid M4
          clear M4 hda ma
          (try dsimp only)
          refine hK.out _ _ ?_ (fun hH10 => ?_)
          · exact H3.out.two 6 rfl
          clear hK K hH9
          try simp only [Act.put, List.setIfInBounds_toArray, List.set_cons_zero, List.set_cons_succ]
          refine lOne 3 (by kernel_rfl) (LFall.op (by kernel_rfl) (fun K hK => ?_))
          go_simp
          refine (refTrim a ca g _ (HG.out.below H3.out.below) (by omega)).mono ?_
          rintro e wq4 ⟨vb, dsb, rfl, hdb, mb⟩
          have HDb := Tre.hid hdb
          have M4 := H3.out.call mb
          obtain ⟨ab, qb, rfl, _⟩ := M4.val 0 rfl
          have H4 := Tre.hid M4
          clear M4 hdb mb
          (try dsimp only)
          refine hK.out _ _ ?_
          clear hK K hH10
          try simp only [Act.put, List.setIfInBounds_toArray, List.set_cons_zero, List.set_cons_succ]
          refine lOne 6 (by kernel_rfl) (LFall.op (by kernel_rfl) (fun K hK => ?_))
          obtain ⟨y0, y1⟩ := H4.out.two 5 rfl
          have f0 := H4.out.free 5 rfl 0
          have f1 := H4.out.free 5 rfl 1
          have H5 := Tre.hid ((H4.out.setCell 5 rfl 0 (.slice aa dsa.length qa)).setCell 5 rfl 1 (.int .i64 0))
          go_simp
          generalize hw : (wq4.setCell ⟨b4, 0, none⟩ (.slice aa dsa.length qa)).setCell ⟨b4, 1, none⟩ (.int .i64 0) = wq5 at H5 ⊢
          clear hw y0 y1 f0 f1
          refine hK.out _ _ ?_
          clear hK K
          try simp only [Act.put, List.setIfInBounds_toArray, List.set_cons_zero, List.set_cons_succ]
          refine lOne 7 (by kernel_rfl) (LFall.op (by kernel_rfl) (fun K hK => ?_))
          obtain ⟨y0, y1⟩ := H5.out.two 4 rfl
          have f0 := H5.out.free 4 rfl 0
          have f1 := H5.out.free 4 rfl 1
          have H6 := Tre.hid ((H5.out.setCell 4 rfl 0 (.slice ab dsb.length qb)).setCell 4 rfl 1 (.int .i64 0))
          go_simp
          generalize hw : (wq5.setCell ⟨b5, 0, none⟩ (.slice ab dsb.length qb)).setCell ⟨b5, 1, none⟩ (.int .i64 0) = wq6 at H6 ⊢
          clear hw y0 y1 f0 f1
          refine hK.out _ _ ?_
          clear hK K
          try simp only [Act.put, List.setIfInBounds_toArray, List.set_cons_zero, List.set_cons_succ]
          refine lDone (by kernel_rfl) ?_
          go_wp2_with fail
          go_meet
          exact ⟨b4, b5, _, _, dsa, dsb, rfl, rfl, HDa.out, HDb.out, ((((((H6.out.front 4 rfl).front 5 rfl).front 3 rfl).front 3 rfl).front 5 rfl).front 5 rfl)⟩
      · -- 5
        go_simp
        have H1 := Tre.hid (H0.out.allocR #[.slice none 0 0, .int .i64 0] 24)
        generalize hb : wq0.heap.size = b5 at H1 ⊢
        generalize hw : wq0.alloc (.cells #[.slice none 0 0, .int .i64 0] 24) = wq1 at H1 ⊢
        clear hb hw
        refine hK.out _ _ ?_ (fun hH11 => ?_)
        · exact H1.out.two 3 rfl
        clear hK K hH0
        try simp only [Act.put, List.setIfInBounds_toArray, List.set_cons_zero, List.set_cons_succ]
        refine lTwo 1 4 (by kernel_rfl) (LStep.op (fun K hK => ?_)) (LStep.op (fun K hK => ?_))
        · -- 21
          go_simp
          refine (trim_any a ca g _ (HG.out.below H1.out.below) (by omega) (HM.out.below H1.out.below)).mono ?_
          rintro e wq2 ⟨va, dsa, rfl, hda, ma⟩
          have HDa := Tre.hid hda
          have M4 := H1.out.call ma
          obtain ⟨aa, qa, rfl, _⟩ := M4.val 0 rfl
          have H2 := Tre.hid M4
          clear M4 hda ma
          (try dsimp only)
          refine hK.out _ _ ?_ (fun hH12 => ?_)
          · exact H2.out.two 5 rfl
          clear hK K hH11
          try simp only [Act.put, List.setIfInBounds_toArray, List.set_cons_zero, List.set_cons_succ]
          refine lTwo 3 4 (by kernel_rfl) (LFall.op (by kernel_rfl) (fun K hK => ?_)) (LStep.op (fun K hK => ?_))
          · -- 23
            go_simp
            refine (refTrim a ca g _ (HG.out.below H2.out.below) (by omega)).mono ?_
            rintro e wq3 ⟨vb, dsb, rfl, hdb, mb⟩
            have HDb := Tre.hid hdb
            have M4 := H2.out.call mb
            obtain ⟨ab, qb, rfl, _⟩ := M4.val 0 rfl
            have H3 := Tre.hid M4
            clear M4 hdb mb
            (try dsimp only)
            refine hK.out _ _ ?_
            clear hK K hH12
            try simp only [Act.put, List.setIfInBounds_toArray, List.set_cons_zero, List.set_cons_succ]
            refine lOne 4 (by kernel_rfl) (LFall.op (by kernel_rfl) (fun K hK => ?_))
            go_simp
            have H4 := Tre.hid (H3.out.allocR #[.slice none 0 0, .int .i64 0] 24)
            generalize hb : wq3.heap.size = b4 at H4 ⊢
            generalize hw : wq3.alloc (.cells #[.slice none 0 0, .int .i64 0] 24) = wq4 at H4 ⊢
            clear hb hw
            refine hK.out _ _ ?_
            clear hK K
            try simp only [Act.put, List.setIfInBounds_toArray, List.set_cons_zero, List.set_cons_succ]
            refine lOne 6 (by kernel_rfl) (LFall.op (by kernel_rfl) (fun K hK => ?_))
            obtain ⟨y0, y1⟩ := H4.out.two 0 rfl
            have f0 := H4.out.free 0 rfl 0
            have f1 := H4.out.free 0 rfl 1
            have H5 := Tre.hid ((H4.out.setCell 0 rfl 0 (.slice aa dsa.length qa)).setCell 0 rfl 1 (.int .i64 0))
            go_simp
            generalize hw : (wq4.setCell ⟨b4, 0, none⟩ (.slice aa dsa.length qa)).setCell ⟨b4, 1, none⟩ (.int .i64 0) = wq5 at H5 ⊢
            clear hw y0 y1 f0 f1
            refine hK.out _ _ ?_
            clear hK K
            try simp only [Act.put, List.setIfInBounds_toArray, List.set_cons_zero, List.set_cons_succ]
            refine lOne 7 (by kernel_rfl) (LFall.op (by kernel_rfl) (fun K hK => ?_))
            obtain ⟨y0, y1⟩ := H5.out.two 5 rfl
            have f0 := H5.out.free 5 rfl 0
            have f1 := H5.out.free 5 rfl 1
            have H6 := Tre.hid ((H5.out.setCell 5 rfl 0 (.slice ab dsb.length qb)).setCell 5 rfl 1 (.int .i64 0))
            go_simp
            generalize hw : (wq5.setCell ⟨b5, 0, none⟩ (.slice ab dsb.length qb)).setCell ⟨b5, 1, none⟩ (.int .i64 0) = wq6 at H6 ⊢
            clear hw y0 y1 f0 f1
            refine hK.out _ _ ?_
            clear hK K
            try simp only [Act.put, List.setIfInBounds_toArray, List.set_cons_zero, List.set_cons_succ]
            refine lDone (by kernel_rfl) ?_
            go_wp2_with fail
            go_meet
            exact ⟨b4, b5, _, _, dsa, dsb, rfl, rfl, HDa.out, HDb.out, (((((H6.out.front 0 rfl).front 2 rfl).front 2 rfl).front 4 rfl).front 4 rfl)⟩
          · -- 4
            go_simp
            have H3 := Tre.hid (H2.out.allocR #[.slice none 0 0, .int .i64 0] 24)
            generalize hb : wq2.heap.size = b4 at H3 ⊢
            generalize hw : wq2.alloc (.cells #[.slice none 0 0, .int .i64 0] 24) = wq3 at H3 ⊢
            clear hb hw
            refine hK.out _ _ ?_ (fun hH13 => ?_)
            · exact H3.out.two 6 rfl
            clear hK K hH12
            try simp only [Act.put, List.setIfInBounds_toArray, List.set_cons_zero, List.set_cons_succ]
            refine lOne 3 (by kernel_rfl) (LFall.op (by kernel_rfl) (fun K hK => ?_))
            go_simp
            refine (refTrim a ca g _ (HG.out.below H3.out.below) (by omega)).mono ?_
            rintro e wq4 ⟨vb, dsb, rfl, hdb, mb⟩
            have HDb := Tre.hid hdb
            have M4 := H3.out.call mb
            obtain ⟨ab, qb, rfl, _⟩ := M4.val 0 rfl
            have H4 := Tre.hid M4
            clear M4 hdb mb
            (try dsimp only)
            refine hK.out _ _ ?_
            clear hK K hH13
            try simp only [Act.put, List.setIfInBounds_toArray, List.set_cons_zero, List.set_cons_succ]
            refine lOne 6 (by kernel_rfl) (LFall.op (by kernel_rfl) (fun K hK => ?_))
            obtain ⟨y0, y1⟩ := H4.out.two 2 rfl
            have f0 := H4.out.free 2 rfl 0
            have f1 := H4.out.free 2 rfl 1
            have H5 := Tre.hid ((H4.out.setCell 2 rfl 0 (.slice aa dsa.length qa)).setCell 2 rfl 1 (.int .i64 0))
            go_simp
            generalize hw : (wq4.setCell ⟨b4, 0, none⟩ (.slice aa dsa.length qa)).setCell ⟨b4, 1, none⟩ (.int .i64 0) = wq5 at H5 ⊢
            clear hw y0 y1 f0 f1
            refine hK.out _ _ ?_
            clear hK K
            try simp only [Act.put, List.setIfInBounds_toArray, List.set_cons_zero, List.set_cons_succ]
            refine lOne 7 (by kernel_rfl) (LFall.op (by kernel_rfl) (fun K hK => ?_))
            obtain ⟨y0, y1⟩ := H5.out.two 5 rfl
            have f0 := H5.out.free 5 rfl 0
            have f1 := H5.out.free 5 rfl 1
            have H6 := Tre.hid ((H5.out.setCell 5 rfl 0 (.slice ab dsb.length qb)).setCell 5 rfl 1 (.int .i64 0))
            go_simp
            generalize hw : (wq5.setCell ⟨b5, 0, none⟩ (.slice ab dsb.length qb)).setCell ⟨b5, 1, none⟩ (.int .i64 0) = wq6 at H6 ⊢
            clear hw y0 y1 f0 f1
            refine hK.out _ _ ?_
            clear hK K
            try simp only [Act.put, List.setIfInBounds_toArray, List.set_cons_zero, List.set_cons_succ]
            refine lDone (by kernel_rfl) ?_
            go_wp2_with fail
            go_meet
            exact ⟨b4, b5, _, _, dsa, dsb, rfl, rfl, HDa.out, HDb.out, (((((H6.out.front 2 rfl).front 2 rfl).front 2 rfl).front 4 rfl).front 4 rfl)⟩
        · -- 4
          go_simp
          have H2 := Tre.hid (H1.out.allocR #[.slice none 0 0, .int .i64 0] 24)
          generalize hb : wq1.heap.size = b4 at H2 ⊢
          generalize hw : wq1.alloc (.cells #[.slice none 0 0, .int .i64 0] 24) = wq2 at H2 ⊢
          clear hb hw
          refine hK.out _ _ ?_ (fun hH14 => ?_)
          · exact H2.out.two 4 rfl
          clear hK K hH11
          try simp only [Act.put, List.setIfInBounds_toArray, List.set_cons_zero, List.set_cons_succ]
          refine lOne 1 (by kernel_rfl) (LStep.op (fun K hK => ?_))
          go_simp
          refine (trim_any a ca g _ (HG.out.below H2.out.below) (by omega) (HM.out.below H2.out.below)).mono ?_
          rintro e wq3 ⟨va, dsa, rfl, hda, ma⟩
          have HDa := Tre.hid hda
          have M4 := H2.out.call ma
          obtain ⟨aa, qa, rfl, _⟩ := M4.val 0 rfl
          have H3 := Tre.hid M4
          clear M4 hda ma
          (try dsimp only)
          refine hK.out _ _ ?_ (fun hH15 => ?_)
          · exact H3.out.two 6 rfl
          clear hK K hH14
          try simp only [Act.put, List.setIfInBounds_toArray, List.set_cons_zero, List.set_cons_succ]
          refine lOne 3 (by kernel_rfl) (LFall.op (by kernel_rfl) (fun K hK => ?_))
          go_simp
          refine (refTrim a ca g _ (HG.out.below H3.out.below) (by omega)).mono ?_
          rintro e wq4 ⟨vb, dsb, rfl, hdb, mb⟩
          have HDb := Tre.hid hdb
          have M4 := H3.out.call mb
          obtain ⟨ab, qb, rfl, _⟩ := M4.val 0 rfl
          have H4 := Tre.hid M4
          clear M4 hdb mb
          (try dsimp only)
          refine hK.out _ _ ?_
          clear hK K hH15
          try simp only [Act.put, List.setIfInBounds_toArray, List.set_cons_zero, List.set_cons_succ]
          refine lOne 6 (by kernel_rfl) (LFall.op (by kernel_rfl) (fun K hK => ?_))
          obtain ⟨y0, y1⟩ := H4.out.two 4 rfl
          have f0 := H4.out.free 4 rfl 0
          have f1 := H4.out.free 4 rfl 1
          have H5 := Tre.hid ((H4.out.setCell 4 rfl 0 (.slice aa dsa.length qa)).setCell 4 rfl 1 (.int .i64 0))
          go_simp
          generalize hw : (wq4.setCell ⟨b4, 0, none⟩ (.slice aa dsa.length qa)).setCell ⟨b4, 1, none⟩ (.int .i64 0) = wq5 at H5 ⊢
          clear hw y0 y1 f0 f1
          refine hK.out _ _ ?_
          clear hK K
          try simp only [Act.put, List.setIfInBounds_toArray, List.set_cons_zero, List.set_cons_succ]
          refine lOne 7 (by kernel_rfl) (LFall.op (by kernel_rfl) (fun K hK => ?_))
          obtain ⟨y0, y1⟩ := H5.out.two 5 rfl
          have f0 := H5.out.free 5 rfl 0
          have f1 := H5.out.free 5 rfl 1
          have H6 := Tre.hid ((H5.out.setCell 5 rfl 0 (.slice ab dsb.length qb)).setCell 5 rfl 1 (.int .i64 0))
          go_simp
          generalize hw : (wq5.setCell ⟨b5, 0, none⟩ (.slice ab dsb.length qb)).setCell ⟨b5, 1, none⟩ (.int .i64 0) = wq6 at H6 ⊢
          clear hw y0 y1 f0 f1
          refine hK.out _ _ ?_
          clear hK K
          try simp only [Act.put, List.setIfInBounds_toArray, List.set_cons_zero, List.set_cons_succ]
          refine lDone (by kernel_rfl) ?_
          go_wp2_with fail
          go_meet
          exact ⟨b4, b5, _, _, dsa, dsb, rfl, rfl, HDa.out, HDb.out, ((((H6.out.front 1 rfl).front 1 rfl).front 3 rfl).front 3 rfl)⟩
    case rest =>
      obtain ⟨B4, B5, va, vb, dsa, dsb, rfl, rfl, HDa, HDb, hN⟩ := hcut
      obtain ⟨wd, rfl⟩ : ∃ wd : World, wd = wc := ⟨_, rfl⟩
      obtain ⟨aa, cA, rfl, _⟩ := hN.out.val 0 rfl
      obtain ⟨ab, cB, rfl, _⟩ := hN.out.val 2 rfl
      have HLA : Hid (g.trim.ns.length = dsa.length) := by show _ = _; rw [← HDa.out, List.length_map]
      have HLB : Hid (dsb.length = dsa.length) := by show _ = _; have := congrArg List.length HDb.out; rw [List.length_map] at this; rw [this]; exact HLA.out
      have hdl : dsa.length ≤ 2097152 := by have h1 := len_weight g.trim; have h2 := g.trim_weight; have h3 := HLA.out; omega
      clear g0 g1 hM
      obtain ⟨g0, g1⟩ := hN.out.two 8 rfl
      obtain ⟨p0, p1⟩ := hN.out.two 4 rfl
      obtain ⟨q0, q1⟩ := hN.out.two 5 rfl
      go_upto_region 7 with fail
      refine wp_region_keep (S := (fun w' => w'.cell? ⟨w.heap.size, 0, none⟩ = some (.slice a g.ns.length ca) ∧ w'.cell? ⟨w.heap.size, 1, none⟩ = some (.int .i64 g.root) ∧ w'.cell? ⟨B4, 0, none⟩ = some (.slice aa dsa.length cA) ∧ w'.cell? ⟨B4, 1, none⟩ = some (.int .i64 0) ∧ w'.cell? ⟨B5, 0, none⟩ = some (.slice ab dsb.length cB) ∧ w'.cell? ⟨B5, 1, none⟩ = some (.int .i64 0))) [] (by kernel_rfl) ?_ (fun hH0 => ?_)
      · exact ⟨g0, g1, p0, p1, q0, q1⟩
      have H0 := Tre.hid hN.out.drew
      generalize hq : wd.drew = wq0 at H0 hH0 ⊢
      clear hq
      refine lTake (i := 0) (some 24) (v := ?_) (by rfl) (by kernel_rfl) (by kernel_rfl) (by kernel_rfl) (by kernel_rfl) (by kernel_rfl) (fun _ _ _ h => h) (by rfl) ?_ hH0 ?_
      rotate_left
      · intro w hSw; (try dsimp only at hSw); simp only [List.getElem?_toArray, List.getElem?_cons_zero, Option.map_some, Option.some.injEq]; (first | (go_simp; done) | (go_simp; with_reducible rfl))
      try simp only [Act.put, List.setIfInBounds_toArray, List.set_cons_zero, List.set_cons_succ]
      refine lTake (i := 2) (some 26) (v := ?_) (by rfl) (by kernel_rfl) (by kernel_rfl) (by kernel_rfl) (by kernel_rfl) (by kernel_rfl) (fun _ _ _ h => h) (by rfl) ?_ hH0 ?_
      rotate_left
      · intro w hSw; (try dsimp only at hSw); simp only [List.getElem?_toArray, List.getElem?_cons_succ, List.getElem?_cons_zero, Option.map_some, Option.some.injEq]; (first | (go_simp; done) | (go_simp; with_reducible rfl))
      try simp only [Act.put, List.setIfInBounds_toArray, List.set_cons_zero, List.set_cons_succ]
      refine lOne 1 (by kernel_rfl) (LStep.op (fun K hK => ?_))
      go_simp
      refine (check_any a ca g _ (HG.out.below H0.out.below) (by omega) (HM.out.below H0.out.below)).mono ?_
      rintro e wq1 ⟨rfl, bq⟩
      have H1 := Tre.hid (H0.out.quiet bq)
      clear bq
      (try dsimp only)
      refine hK.out _ _ ?_ (fun hH1 => ?_)
      · exact ⟨(H1.out.two 8 rfl).1, (H1.out.two 8 rfl).2, (H1.out.two 4 rfl).1, (H1.out.two 4 rfl).2, (H1.out.two 5 rfl).1, (H1.out.two 5 rfl).2⟩
      clear hK K hH0
      try simp only [Act.put, List.setIfInBounds_toArray, List.set_cons_zero, List.set_cons_succ]
      refine lOne 3 (by kernel_rfl) (LStep.op (fun K hK => ?_))
      go_simp
      refine (refCheck a ca g _ (HG.out.below H1.out.below) (by omega)).mono ?_
      rintro e wq2 ⟨rfl, bq⟩
      have H2 := Tre.hid (H1.out.quiet bq)
      clear bq
      (try dsimp only)
      refine hK.out _ _ ?_ (fun hH2 => ?_)
      · exact ⟨(H2.out.two 8 rfl).1, (H2.out.two 8 rfl).2, (H2.out.two 4 rfl).1, (H2.out.two 4 rfl).2, (H2.out.two 5 rfl).1, (H2.out.two 5 rfl).2⟩
      clear hK K hH1
      try simp only [Act.put, List.setIfInBounds_toArray, List.set_cons_zero, List.set_cons_succ]
      refine lPure (i := 4) (some 28) (v := ?_) (by rfl) (by kernel_rfl) (by kernel_rfl) (by kernel_rfl) (by kernel_rfl) (fun _ _ _ h => h) (by rfl) ?_ (keep_of hH2) ?_
      rotate_left
      · intro w; simp only [List.getElem?_toArray, List.getElem?_cons_succ, List.getElem?_cons_zero, Option.map_some, Option.some.injEq]; (first | (go_simp; done) | (go_simp; with_reducible rfl))
      try simp only [Act.put, List.setIfInBounds_toArray, List.set_cons_zero, List.set_cons_succ]
      refine lPure (i := 5) (some 29) (v := ?_) (by rfl) (by kernel_rfl) (by kernel_rfl) (by kernel_rfl) (by kernel_rfl) (fun _ _ _ h => h) (by rfl) ?_ (keep_of hH2) ?_
      rotate_left
      · intro w; simp only [List.getElem?_toArray, List.getElem?_cons_succ, List.getElem?_cons_zero, Option.map_some, Option.some.injEq]; (first | (go_simp; done) | (go_simp; with_reducible rfl))
      try simp only [Act.put, List.setIfInBounds_toArray, List.set_cons_zero, List.set_cons_succ]
      refine lTake (i := 6) (some 30) (v := ?_) (by rfl) (by kernel_rfl) (by kernel_rfl) (by kernel_rfl) (by kernel_rfl) (by kernel_rfl) (fun _ _ _ h => h) (by rfl) ?_ hH2 ?_
      rotate_left
      · intro w hSw; (try dsimp only at hSw); simp only [List.getElem?_toArray, List.getElem?_cons_succ, List.getElem?_cons_zero, Option.map_some, Option.some.injEq]; (first | (go_simp; done) | (go_simp; with_reducible rfl))
      try simp only [Act.put, List.setIfInBounds_toArray, List.set_cons_zero, List.set_cons_succ]
      refine lTake (i := 8) (some 32) (v := ?_) (by rfl) (by kernel_rfl) (by kernel_rfl) (by kernel_rfl) (by kernel_rfl) (by kernel_rfl) (fun _ _ _ h => h) (by rfl) ?_ hH2 ?_
      rotate_left
      · intro w hSw; (try dsimp only at hSw); simp only [List.getElem?_toArray, List.getElem?_cons_succ, List.getElem?_cons_zero, Option.map_some, Option.some.injEq]; (first | (go_simp; done) | (go_simp; with_reducible rfl))
      try simp only [Act.put, List.setIfInBounds_toArray, List.set_cons_zero, List.set_cons_succ]
      refine lOne 7 (by kernel_rfl) (LStep.op (fun K hK => ?_))
      go_simp
      refine (reach_any a ca g _ (HG.out.below H2.out.below) (by omega) (HM.out.below H2.out.below)).mono ?_
      rintro e wq3 ⟨v31, rfl, mq⟩
      have M4 := H2.out.call mq
      obtain ⟨a31, c31, rfl, _⟩ := M4.val 0 rfl
      have H3 := Tre.hid M4
      clear M4 mq
      (try dsimp only)
      refine hK.out _ _ ?_ (fun hH3 => ?_)
      · exact ⟨(H3.out.two 9 rfl).1, (H3.out.two 9 rfl).2, (H3.out.two 5 rfl).1, (H3.out.two 5 rfl).2, (H3.out.two 6 rfl).1, (H3.out.two 6 rfl).2⟩
      clear hK K hH2
      try simp only [Act.put, List.setIfInBounds_toArray, List.set_cons_zero, List.set_cons_succ]
      refine lOne 9 (by kernel_rfl) (LStep.op (fun K hK => ?_))
      go_simp
      refine (refReach a ca g _ (HG.out.below H3.out.below) (by omega)).mono ?_
      rintro e wq4 ⟨v33, rfl, mq⟩
      have M4 := H3.out.call mq
      obtain ⟨a33, c33, rfl, _⟩ := M4.val 0 rfl
      have H4 := Tre.hid M4
      clear M4 mq
      (try dsimp only)
      refine hK.out _ _ ?_ (fun hH4 => ?_)
      · exact ⟨(H4.out.two 10 rfl).1, (H4.out.two 10 rfl).2, (H4.out.two 6 rfl).1, (H4.out.two 6 rfl).2, (H4.out.two 7 rfl).1, (H4.out.two 7 rfl).2⟩
      clear hK K hH3
      try simp only [Act.put, List.setIfInBounds_toArray, List.set_cons_zero, List.set_cons_succ]
      refine lOne 10 (by kernel_rfl) (LStep.op (fun K hK => ?_))
      go_simp
      have CI := refInts a31 a33 c31 c33 (g.reachL.map fun k : Nat => (k : Int)) (g.reachL.map fun k : Nat => (k : Int)) wq4 (ints_row (H4.out.row 1 rfl)) (ints_row (H4.out.row 0 rfl)) (by rw [List.length_map]; exact hlr) (by rw [List.length_map]; exact hlr)
      simp only [List.length_map, decide_true] at CI
      refine CI.mono ?_
      rintro e wq5 ⟨rfl, bq⟩
      have H5 := Tre.hid ((H4.out.quiet bq).sub (by simp) : Mem w wq5 [nodesR (.slice aa dsa.length cA) dsa, kidsR dsa, nodesR (.slice ab dsb.length cB) dsb, kidsR dsb, cellsR B4 24 #[.slice aa dsa.length cA, .int .i64 0], cellsR B5 24 #[.slice ab dsb.length cB, .int .i64 0], rowR 33 5 vW g.ns.length (dw.flatMap NodeV.cells), cellsR B3 24 #[vW, .int .i64 g.root], cellsR w.heap.size 24 #[.slice a g.ns.length ca, .int .i64 g.root]])
      clear bq CI
      (try dsimp only)
      refine hK.out _ _ ?_ (fun hH5 => ?_)
      · exact ⟨(H5.out.two 8 rfl).1, (H5.out.two 8 rfl).2, (H5.out.two 4 rfl).1, (H5.out.two 4 rfl).2, (H5.out.two 5 rfl).1, (H5.out.two 5 rfl).2⟩
      clear hK K hH4
      try simp only [Act.put, List.setIfInBounds_toArray, List.set_cons_zero, List.set_cons_succ]
      refine lPure (i := 11) (some 35) (v := ?_) (by rfl) (by kernel_rfl) (by kernel_rfl) (by kernel_rfl) (by kernel_rfl) (fun _ _ _ h => h) (by rfl) ?_ (keep_of hH5) ?_
      rotate_left
      · intro w; simp only [List.getElem?_toArray, List.getElem?_cons_succ, List.getElem?_cons_zero, Option.map_some, Option.some.injEq]; (first | (go_simp; done) | (go_simp; with_reducible rfl))
      try simp only [Act.put, List.setIfInBounds_toArray, List.set_cons_zero, List.set_cons_succ]
      refine lPure (i := 12) (some 36) (v := ?_) (by rfl) (by kernel_rfl) (by kernel_rfl) (by kernel_rfl) (by kernel_rfl) (fun _ _ _ h => h) (by rfl) ?_ (keep_of hH5) ?_
      rotate_left
      · intro w; simp only [List.getElem?_toArray, List.getElem?_cons_succ, List.getElem?_cons_zero, Option.map_some, Option.some.injEq]; (first | (go_simp; done) | (go_simp; with_reducible rfl))
      try simp only [Act.put, List.setIfInBounds_toArray, List.set_cons_zero, List.set_cons_succ]
      refine lPure (i := 13) (some 37) (v := ?_) (by rfl) (by kernel_rfl) (by kernel_rfl) (by kernel_rfl) (by kernel_rfl) (fun _ _ _ h => h) (by rfl) ?_ (keep_of hH5) ?_
      rotate_left
      · intro w; simp only [List.getElem?_toArray, List.getElem?_cons_succ, List.getElem?_cons_zero, Option.map_some, Option.some.injEq]; (first | (go_simp; done) | (go_simp; with_reducible rfl))
      try simp only [Act.put, List.setIfInBounds_toArray, List.set_cons_zero, List.set_cons_succ]
      refine lTake (i := 14) (some 38) (v := ?_) (by rfl) (by kernel_rfl) (by kernel_rfl) (by kernel_rfl) (by kernel_rfl) (by kernel_rfl) (fun _ _ _ h => h) (by rfl) ?_ hH5 ?_
      rotate_left
      · intro w hSw; (try dsimp only at hSw); simp only [List.getElem?_toArray, List.getElem?_cons_succ, List.getElem?_cons_zero, Option.map_some, Option.some.injEq]; (first | (go_simp; done) | (go_simp; with_reducible rfl))
      try simp only [Act.put, List.setIfInBounds_toArray, List.set_cons_zero, List.set_cons_succ]
      refine lTake (i := 16) (some 40) (v := ?_) (by rfl) (by kernel_rfl) (by kernel_rfl) (by kernel_rfl) (by kernel_rfl) (by kernel_rfl) (fun _ _ _ h => h) (by rfl) ?_ hH5 ?_
      rotate_left
      · intro w hSw; (try dsimp only at hSw); simp only [List.getElem?_toArray, List.getElem?_cons_succ, List.getElem?_cons_zero, Option.map_some, Option.some.injEq]; (first | (go_simp; done) | (go_simp; with_reducible rfl))
      try simp only [Act.put, List.setIfInBounds_toArray, List.set_cons_zero, List.set_cons_succ]
      refine lOne 15 (by kernel_rfl) (LStep.op (fun K hK => ?_))
      go_simp
      refine (freeF_any a ca g _ (HG.out.below H5.out.below) (by omega) (HM.out.below H5.out.below)).mono ?_
      rintro e wq6 ⟨v39, rfl, mq⟩
      have M4 := H5.out.call mq
      obtain ⟨a39, c39, rfl, _⟩ := M4.val 0 rfl
      have H6 := Tre.hid M4
      clear M4 mq
      (try dsimp only)
      refine hK.out _ _ ?_ (fun hH6 => ?_)
      · exact ⟨(H6.out.two 9 rfl).1, (H6.out.two 9 rfl).2, (H6.out.two 5 rfl).1, (H6.out.two 5 rfl).2, (H6.out.two 6 rfl).1, (H6.out.two 6 rfl).2⟩
      clear hK K hH5
      try simp only [Act.put, List.setIfInBounds_toArray, List.set_cons_zero, List.set_cons_succ]
      refine lOne 17 (by kernel_rfl) (LStep.op (fun K hK => ?_))
      go_simp
      refine (refFree a ca g _ (HG.out.below H6.out.below) (by omega)).mono ?_
      rintro e wq7 ⟨v41, rfl, mq⟩
      have M4 := H6.out.call mq
      obtain ⟨a41, c41, rfl, _⟩ := M4.val 0 rfl
      have H7 := Tre.hid M4
      clear M4 mq
      (try dsimp only)
      refine hK.out _ _ ?_ (fun hH7 => ?_)
      · exact ⟨(H7.out.two 10 rfl).1, (H7.out.two 10 rfl).2, (H7.out.two 6 rfl).1, (H7.out.two 6 rfl).2, (H7.out.two 7 rfl).1, (H7.out.two 7 rfl).2⟩
      clear hK K hH6
      try simp only [Act.put, List.setIfInBounds_toArray, List.set_cons_zero, List.set_cons_succ]
      refine lOne 18 (by kernel_rfl) (LStep.op (fun K hK => ?_))
      go_simp
      have CI := refInts a39 a41 c39 c41 (g.freeL.map fun k : Nat => (k : Int)) (g.freeL.map fun k : Nat => (k : Int)) wq7 (ints_row (H7.out.row 1 rfl)) (ints_row (H7.out.row 0 rfl)) (by rw [List.length_map]; exact hlf) (by rw [List.length_map]; exact hlf)
      simp only [List.length_map, decide_true] at CI
      refine CI.mono ?_
      rintro e wq8 ⟨rfl, bq⟩
      have H8 := Tre.hid ((H7.out.quiet bq).sub (by simp) : Mem w wq8 [nodesR (.slice aa dsa.length cA) dsa, kidsR dsa, nodesR (.slice ab dsb.length cB) dsb, kidsR dsb, cellsR B4 24 #[.slice aa dsa.length cA, .int .i64 0], cellsR B5 24 #[.slice ab dsb.length cB, .int .i64 0], rowR 33 5 vW g.ns.length (dw.flatMap NodeV.cells), cellsR B3 24 #[vW, .int .i64 g.root], cellsR w.heap.size 24 #[.slice a g.ns.length ca, .int .i64 g.root]])
      clear bq CI
      (try dsimp only)
      refine hK.out _ _ ?_ (fun hH8 => ?_)
      · exact ⟨(H8.out.two 8 rfl).1, (H8.out.two 8 rfl).2, (H8.out.two 4 rfl).1, (H8.out.two 4 rfl).2, (H8.out.two 5 rfl).1, (H8.out.two 5 rfl).2⟩
      clear hK K hH7
      try simp only [Act.put, List.setIfInBounds_toArray, List.set_cons_zero, List.set_cons_succ]
      refine lPure (i := 19) (some 43) (v := ?_) (by rfl) (by kernel_rfl) (by kernel_rfl) (by kernel_rfl) (by kernel_rfl) (fun _ _ _ h => h) (by rfl) ?_ (keep_of hH8) ?_
      rotate_left
      · intro w; simp only [List.getElem?_toArray, List.getElem?_cons_succ, List.getElem?_cons_zero, Option.map_some, Option.some.injEq]; (first | (go_simp; done) | (go_simp; with_reducible rfl))
      try simp only [Act.put, List.setIfInBounds_toArray, List.set_cons_zero, List.set_cons_succ]
      refine lPure (i := 20) (some 44) (v := ?_) (by rfl) (by kernel_rfl) (by kernel_rfl) (by kernel_rfl) (by kernel_rfl) (fun _ _ _ h => h) (by rfl) ?_ (keep_of hH8) ?_
      rotate_left
      · intro w; simp only [List.getElem?_toArray, List.getElem?_cons_succ, List.getElem?_cons_zero, Option.map_some, Option.some.injEq]; (first | (go_simp; done) | (go_simp; with_reducible rfl))
      try simp only [Act.put, List.setIfInBounds_toArray, List.set_cons_zero, List.set_cons_succ]
      refine lPure (i := 21) (some 45) (v := ?_) (by rfl) (by kernel_rfl) (by kernel_rfl) (by kernel_rfl) (by kernel_rfl) (fun _ _ _ h => h) (by rfl) ?_ (keep_of hH8) ?_
      rotate_left
      · intro w; simp only [List.getElem?_toArray, List.getElem?_cons_succ, List.getElem?_cons_zero, Option.map_some, Option.some.injEq]; (first | (go_simp; done) | (go_simp; with_reducible rfl))
      try simp only [Act.put, List.setIfInBounds_toArray, List.set_cons_zero, List.set_cons_succ]
      refine lTake (i := 22) (some 46) (v := ?_) (by rfl) (by kernel_rfl) (by kernel_rfl) (by kernel_rfl) (by kernel_rfl) (by kernel_rfl) (fun _ _ _ h => h) (by rfl) ?_ hH8 ?_
      rotate_left
      · intro w hSw; (try dsimp only at hSw); simp only [List.getElem?_toArray, List.getElem?_cons_succ, List.getElem?_cons_zero, Option.map_some, Option.some.injEq]; (first | (go_simp; done) | (go_simp; with_reducible rfl))
      try simp only [Act.put, List.setIfInBounds_toArray, List.set_cons_zero, List.set_cons_succ]
      refine lTake (i := 23) (some 47) (v := ?_) (by rfl) (by kernel_rfl) (by kernel_rfl) (by kernel_rfl) (by kernel_rfl) (by kernel_rfl) (fun _ _ _ h => h) (by rfl) ?_ hH8 ?_
      rotate_left
      · intro w hSw; (try dsimp only at hSw); simp only [List.getElem?_toArray, List.getElem?_cons_succ, List.getElem?_cons_zero, Option.map_some, Option.some.injEq]; (first | (go_simp; done) | (go_simp; with_reducible rfl))
      try simp only [Act.put, List.setIfInBounds_toArray, List.set_cons_zero, List.set_cons_succ]
      refine lOne 24 (by kernel_rfl) (LStep.op (fun K hK => ?_))
      go_simp
      have NAa := nodes_read (H8.out.at_ 0 rfl) (H8.out.at_ 1 rfl)
      have NAb := nodes_read (H8.out.at_ 2 rfl) (H8.out.at_ 3 rfl)
      rw [HDa.out] at NAa
      rw [HDb.out] at NAb
      have CE := refEqual aa ab cA cB g.trim g.trim wq8 NAa NAb (by have := g.trim_weight; omega) (by have := g.trim_weight; omega)
      rw [HLA.out] at CE
      clear NAa NAb
      have CE2 : Calls Try.prog 17 #[.agg #[.slice aa dsa.length cA, .int .i64 0], .agg #[.slice ab dsb.length cB, .int .i64 0]] wq8 fun e w' => e = .returned (.bool true) ∧ Below wq8.heap.size wq8 w' := by rw [HLB.out]; simp only [decide_true] at CE; exact CE
      refine CE2.mono ?_
      rintro e wq9 ⟨rfl, bq⟩
      have H9 := Tre.hid (H8.out.quiet bq)
      clear bq CE CE2
      (try dsimp only)
      refine hK.out _ _ ?_ (fun hH9 => ?_)
      · exact ⟨(H9.out.two 8 rfl).1, (H9.out.two 8 rfl).2, (H9.out.two 4 rfl).1, (H9.out.two 4 rfl).2, (H9.out.two 5 rfl).1, (H9.out.two 5 rfl).2⟩
      clear hK K hH8
      try simp only [Act.put, List.setIfInBounds_toArray, List.set_cons_zero, List.set_cons_succ]
      refine lPure (i := 25) (some 49) (v := ?_) (by rfl) (by kernel_rfl) (by kernel_rfl) (by kernel_rfl) (by kernel_rfl) (fun _ _ _ h => h) (by rfl) ?_ (keep_of hH9) ?_
      rotate_left
      · intro w; simp only [List.getElem?_toArray, List.getElem?_cons_succ, List.getElem?_cons_zero, Option.map_some, Option.some.injEq]; (first | (go_simp; done) | (go_simp; with_reducible rfl))
      try simp only [Act.put, List.setIfInBounds_toArray, List.set_cons_zero, List.set_cons_succ]
      refine lPure (i := 26) (some 50) (v := ?_) (by rfl) (by kernel_rfl) (by kernel_rfl) (by kernel_rfl) (by kernel_rfl) (fun _ _ _ h => h) (by rfl) ?_ (keep_of hH9) ?_
      rotate_left
      · intro w; simp only [List.getElem?_toArray, List.getElem?_cons_succ, List.getElem?_cons_zero, Option.map_some, Option.some.injEq]; (first | (go_simp; done) | (go_simp; with_reducible rfl))
      try simp only [Act.put, List.setIfInBounds_toArray, List.set_cons_zero, List.set_cons_succ]
      refine lDone (by kernel_rfl) ?_
      clear hH9
      have H10 := Tre.hid (H9.out.loosen 1 rfl)
      clear H0 H1 H2 H3 H4 H5 H6 H7 H8 H9 g0 g1 p0 p1 q0 q1
      obtain ⟨p0, p1⟩ := H10.out.two 4 rfl
      go_wp2_with fail
      go_loopw [54] (fun v54 wr => ∃ i : Nat, i ≤ dsa.length ∧ v54 = .int .i64 i ∧ Hid (Mem w wr [nodesR (.slice aa dsa.length cA) dsa, loosR (argsL dsa), nodesR (.slice ab dsb.length cB) dsb, kidsR dsb, cellsR B4 24 #[.slice aa dsa.length cA, .int .i64 0], cellsR B5 24 #[.slice ab dsb.length cB, .int .i64 0], rowR 33 5 vW g.ns.length (dw.flatMap NodeV.cells), cellsR B3 24 #[vW, .int .i64 g.root], cellsR w.heap.size 24 #[.slice a g.ns.length ca, .int .i64 g.root]]))
        (fun v54 _ => dsa.length - (intOf v54).toNat)
      case atStart => exact ⟨0, Nat.zero_le _, rfl, H10.out⟩
      case round =>
        obtain ⟨i, hi, rfl, hR⟩ := hrel
        clear p0 p1
        obtain ⟨p0, p1⟩ := hR.out.two 4 rfl
        by_cases hlt : i < dsa.length
        · have HX : Hid (dsa[i]? = some dsa[i]) := List.getElem?_eq_getElem hlt
          generalize dsa[i] = x at *
          obtain ⟨gN, rfl, _, _, C2⟩ := hR.out.getRow 0 rfl (i * 5 + 2) ((cells_at dsa i 2 x HX.out (by omega)).trans rfl)
          have hxm : (x.va, x.n.args.length) ∈ argsL dsa := List.mem_map.2 ⟨x, List.mem_of_getElem? HX.out, rfl⟩
          have HXM := Tre.hid hxm
          have hxl : x.n.args.length ≤ 2097152 := by
            have h1 : x.n ∈ g.trim.ns := by rw [← HDa.out]; exact List.mem_map.2 ⟨x, List.mem_of_getElem? HX.out, rfl⟩
            have h2 := node_weight h1
            have h3 := args_len x.n
            have h4 : (g.trim.ns.map Tre.Node.weight).sum ≤ g.weight := g.trim_weight
            omega
          obtain ⟨ax, cx, hva, _⟩ := hR.out.loosVal 1 rfl hxm
          have HVA := Tre.hid hva
          rw [hva] at C2
          have i1 : (0 : Int) ≤ (i : Int) := by omega
          have i2 : (i : Int) < (dsa.length : Int) := by omega
          clear hva hxm
          go_wp2_with fail
          obtain ⟨wo, rfl⟩ : ∃ wo : World, wo = wr := ⟨_, rfl⟩
          go_loopw [64] (fun v64 wi => ∃ k : Nat, k ≤ x.n.args.length ∧ v64 = .int .i64 k ∧ Hid (Mem w wi [nodesR (.slice (some ⟨gN, 0, none⟩) dsa.length cA) dsa, loosR (argsL dsa), nodesR (.slice ab dsb.length cB) dsb, kidsR dsb, cellsR B4 24 #[.slice (some ⟨gN, 0, none⟩) dsa.length cA, .int .i64 0], cellsR B5 24 #[.slice ab dsb.length cB, .int .i64 0], rowR 33 5 vW g.ns.length (dw.flatMap NodeV.cells), cellsR B3 24 #[vW, .int .i64 g.root], cellsR w.heap.size 24 #[.slice a g.ns.length ca, .int .i64 g.root]]))
            (fun v64 _ => x.n.args.length - (intOf v64).toNat)
          case atStart => exact ⟨0, Nat.zero_le _, rfl, hR.out⟩
          case round =>
            obtain ⟨k, hk, rfl, hI⟩ := hrel
            clear p0 p1 C2
            by_cases hkl : k < x.n.args.length
            · obtain ⟨p0, p1⟩ := hI.out.two 4 rfl
              have C2 := hI.out.cellAt 0 rfl (i * 5 + 2) ((cells_at dsa i 2 x HX.out (by omega)).trans rfl)
              have hxm := HXM.out
              rw [HVA.out] at C2 hxm
              obtain ⟨gX, cX, u, e, uc, uf⟩ := hI.out.loosAt 1 rfl hxm hkl
              cases e
              have MS := Tre.hid (hI.out.loosSet 1 rfl hxm k (.int .i64 (-1)))
              have k1 : (0 : Int) ≤ (k : Int) := by omega
              have k2 : (k : Int) < (x.n.args.length : Int) := by omega
              clear hxm
              go_wp2_with fail
              go_roundw
              case rel => exact ⟨k + 1, by omega, by go_num, MS.out⟩
              case measure => simp [intOf]; omega
            · go_wp2_with fail
              go_roundw
              case rel => exact ⟨i + 1, by omega, by go_num, hI.out⟩
              case measure => simp [intOf]; omega
        · obtain ⟨aw, cw, rfl, _⟩ := hR.out.val 6 rfl
          have NW : NodesAt wr aw g.ns := by
            have hl : dw.length = g.ns.length := by have := congrArg List.length DW.out; simpa using this
            have h := hR.out.at_ 6 rfl
            rw [← hl] at h
            have h2 := nodesAt_of (c := cw) h (fun d hd => (DWV.out d hd).below hR.out.below)
            rwa [DW.out] at h2
          have CE := refEqual a aw ca cw g g wr (HG.out.below hR.out.below) NW (by omega) (by omega)
          simp only [decide_true] at CE
          have HCE := Tre.hid CE
          obtain ⟨g0, g1⟩ := hR.out.two 8 rfl
          obtain ⟨q0, q1⟩ := hR.out.two 7 rfl
          clear NW CE p0 p1
          go_wp2_with fail
          refine HCE.out.mono ?_
          rintro e w9 ⟨rfl, b9⟩
          have HM9 := Tre.hid (hR.out.quiet b9)
          clear b9
          go_wp2_with fail
          go_ret
          exact ⟨rfl, HM9.out.below⟩
end Go.Proofs.Ytgngnkajjldnlaa.gr
