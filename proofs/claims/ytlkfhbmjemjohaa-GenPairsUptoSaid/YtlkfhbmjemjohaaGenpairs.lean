/- GenPairs: the walk. -/
import Derived.Test.YtlkfhbmjemjohaaGens
import Derived.Deep.DeepCutAuto
namespace Go.Tre
theorem bigs_small (l : List ByteArray) (h : (l.map big).sum ≤ 300) : (l.map fun s => s.size + 1).sum ≤ 1001 * l.length := by
  induction l with
  | nil => simp
  | cons s r ih =>
    simp only [List.map_cons, List.sum_cons, List.length_cons] at h ⊢
    have h1 : s.size ≤ 1000 := by
      have hb : big s ≤ 300 := by omega
      unfold big at hb
      split at hb <;> omega
    have := ih (by omega)
    omega
theorem great_weight {g : Tre.Graph} (h : g.great ≤ 300) : g.weight ≤ 300300 := by
  have go : ∀ ns : List Tre.Node, (ns.map Node.great).sum ≤ 300 → (ns.map Node.weight).sum ≤ 1001 * (ns.length + (ns.map Node.great).sum) := by
    intro ns
    induction ns with
    | nil => intro _; simp
    | cons n r ih =>
      intro h
      simp only [List.map_cons, List.sum_cons, List.length_cons] at h ⊢
      have h2 := ih (by omega)
      have h3 : n.great ≤ 300 := by omega
      have h6 : n.weight ≤ 1001 + 1001 * n.great := by
        unfold Node.great at h3 ⊢
        unfold Node.weight
        have h4 := bigs_small n.labels (by omega)
        have h5 : n.name.size ≤ 1000 := by
          have hb : big n.name ≤ 300 := by omega
          unfold big at hb
          split at hb <;> omega
        omega
      omega
  unfold Graph.great at h
  have := go g.ns (by omega)
  unfold Graph.weight
  omega
theorem beside_weight (g f : Tre.Graph) : (besideG g f).weight = f.weight + 4 := by
  unfold Graph.weight
  show ((f.ns ++ _).map Node.weight).sum = _
  rw [List.map_append, List.sum_append]
  rfl
theorem sum_eq {n x y : Nat} (h : n = x + y) (hb : x + y ≤ 2097152) : ((n : Int) == IntKind.i64.wrap ((x : Int) + (y : Int))) = true := by
  rw [IntWalk.i64_in ((x : Int) + (y : Int)) (by omega), h]
  simp
end Go.Tre
namespace Go.Proofs.Ytlkfhbmjemjohaa.gr
open Go.RowKit Go.Shelf Go.Maps Go.Tre lex
def starV (a b : Int) (k : Nat) : NodeV := ⟨starN a b, .slice (some ⟨k, 0, none⟩) 2 2, .slice none 0 0⟩
theorem starV_val {w : World} {a b : Int} {k : Nat} {t : TypeId} (h : w.heap[k]? = some (.cells #[.int .i64 a, .int .i64 b] t (0, 0))) : NodeVal w (starV a b k) :=
  ⟨some ⟨k, 0, none⟩, 2, none, 0, rfl, rfl, row_lit h 1 2 rfl, row_none _ _, Nat.le_refl _, Nat.le_refl _⟩
theorem nrow5 {w : World} {a : Option Addr} {c n : Nat} {L : List Value} (h : w.ownsRow 0 38 5 (.slice a n c) n L) : Row w 5 a n L := by
  obtain ⟨a', c', e, _, r⟩ := row_read h
  cases e
  exact r
theorem kids_val {w : World} {ds : List NodeV} (hk : (kidsR ds).P w) : ∀ d ∈ ds, NodeVal w d := fun d hd => NodeVal.kids fun r hr => hk r (List.mem_flatMap.2 ⟨d, hd, hr⟩)

set_option maxRecDepth 100000 in
set_option maxHeartbeats 8000000 in
theorem pairsLaw_no (a : Option Addr) (ca : Nat) (g : Tre.Graph) (am : Option Addr) (cm : Nat) (mono : List Int) (w : World) (hg : NodesAt w a g.ns) (wg : g.weight ≤ 2097152) (hl : IntsAt w am mono) (hm : MaxAt w) (hc : ¬ g.monoC mono = 0) :
    Calls Try.prog 4 #[.agg #[.slice a g.ns.length ca, .int .i64 g.root], .slice am mono.length cm] w fun e w' => e = .returned (.bool true) ∧ Below w.heap.size w w' := by
  have M := (Mem.nil w).allocR #[.slice a g.ns.length ca, .int .i64 g.root] 24
  have HM := Tre.hid hm
  have HG := Tre.hid hg
  have HL := Tre.hid hl
  have HM0 := Tre.hid M
  have CGD := fun W (h : Below w.heap.size w W) => good_any a ca g am mono.length cm 300 W (by omega) (hg.below h)
  have HGD := Tre.hid CGD
  clear hg hl hm M CGD
  go_enter Try.func4, Try.ntmps4
  go_wp2_with fail
  refine (alive13 _ (HM.out.below HM0.out.below)).mono ?_
  rintro e w1 ⟨rfl, b1⟩
  have M1 := HM0.out.quiet b1
  obtain ⟨g0, g1⟩ := M1.two 0 rfl
  have HM1 := Tre.hid M1
  clear M1 b1
  go_wp2_with fail
  cases hgd : (decide ((g.great : Int) ≤ 300) && decide ((mono.length : Int) ≤ 60))
  · have CGD := HGD.out w1 HM1.out.below
    rw [hgd] at CGD
    refine CGD.mono ?_
    rintro e w2 ⟨rfl, b2⟩
    have HM2 := Tre.hid (HM1.out.quiet b2)
    clear b2 CGD hgd
    go_wp2_with fail
    go_ret
    exact ⟨rfl, HM2.out.below⟩
  have CGD := HGD.out w1 HM1.out.below
  rw [hgd] at CGD
  rw [Bool.and_eq_true, decide_eq_true_eq, decide_eq_true_eq] at hgd
  have hgl : g.ns.length ≤ 300 := by have := g.great_len; omega
  have hml : mono.length ≤ 60 := by omega
  have hgr : g.great ≤ 300 := by omega
  have hgw := great_weight hgr
  clear hgd hgr
  refine CGD.mono ?_
  rintro e w2 ⟨rfl, b2⟩
  clear g0 g1 CGD
  have M2 := HM1.out.quiet b2
  obtain ⟨g0, g1⟩ := M2.two 0 rfl
  have HM2 := Tre.hid M2
  clear M2 b2
  have HCF := Tre.hid (fresh_no a ca g am cm mono w2 (HG.out.below HM2.out.below) (by omega) (HL.out.below HM2.out.below) (by omega) (HM.out.below HM2.out.below) hc)
  have u0 := not_zero hc
  clear hc
  go_wp2_with fail
  refine HCF.out.mono ?_
  rintro e w3 ⟨rfl, b3⟩
  have HM3 := Tre.hid (HM2.out.quiet b3)
  clear b3
  go_wp2_with fail
  go_ret
  exact ⟨rfl, (HM3.out.alloc _).below⟩

set_option maxRecDepth 100000 in
set_option maxHeartbeats 8000000 in
theorem pairsLaw_ok (a : Option Addr) (ca : Nat) (g : Tre.Graph) (am : Option Addr) (cm : Nat) (mn : List Nat) (w : World) (hg : NodesAt w a g.ns) (wg : g.weight ≤ 2097152) (hl : IntsAt w am (mn.map fun k : Nat => (k : Int))) (hm : MaxAt w) (c0 : g.checkC = 0) (hlm : ∀ m ∈ mn, m < g.ns.length) :
    Calls Try.prog 4 #[.agg #[.slice a g.ns.length ca, .int .i64 g.root], .slice am mn.length cm] w fun e w' => e = .returned (.bool true) ∧ Below w.heap.size w w' := by
  obtain ⟨ii, K1, K2, K3, K4⟩ := info_parts infoN
  have J1 := Tre.hid K1
  have J2 := Tre.hid K2
  have J3 := Tre.hid K3
  have J4 := Tre.hid K4
  have C0 := Tre.hid c0
  have HLM := Tre.hid hlm
  clear K1 K2 K3 K4 c0 hlm
  have M := (Mem.nil w).allocR #[.slice a g.ns.length ca, .int .i64 g.root] 24
  have HM := Tre.hid hm
  have HG := Tre.hid hg
  have HL := Tre.hid hl
  have HM0 := Tre.hid M
  have CGD := fun W (h : Below w.heap.size w W) => good_any a ca g am mn.length cm 300 W (by omega) (hg.below h)
  have HGD := Tre.hid CGD
  clear hg hl hm M CGD
  go_enter Try.func4, Try.ntmps4
  go_wp2_with fail
  refine (alive13 _ (HM.out.below HM0.out.below)).mono ?_
  rintro e w1 ⟨rfl, b1⟩
  have M1 := HM0.out.quiet b1
  obtain ⟨g0, g1⟩ := M1.two 0 rfl
  have HM1 := Tre.hid M1
  clear M1 b1
  go_wp2_with fail
  cases hgd : (decide ((g.great : Int) ≤ 300) && decide ((mn.length : Int) ≤ 60))
  · have CGD := HGD.out w1 HM1.out.below
    rw [hgd] at CGD
    refine CGD.mono ?_
    rintro e w2 ⟨rfl, b2⟩
    have HM2 := Tre.hid (HM1.out.quiet b2)
    clear b2 CGD hgd
    go_wp2_with fail
    go_ret
    exact ⟨rfl, HM2.out.below⟩
  have CGD := HGD.out w1 HM1.out.below
  rw [hgd] at CGD
  rw [Bool.and_eq_true, decide_eq_true_eq, decide_eq_true_eq] at hgd
  have hgl : g.ns.length ≤ 300 := by have := g.great_len; omega
  have hml : mn.length ≤ 60 := by omega
  have hgr : g.great ≤ 300 := by omega
  have hgw := great_weight hgr
  clear hgd hgr
  refine CGD.mono ?_
  rintro e w2 ⟨rfl, b2⟩
  clear g0 g1 CGD
  have M2 := HM1.out.quiet b2
  obtain ⟨g0, g1⟩ := M2.two 0 rfl
  have HM2 := Tre.hid M2
  clear M2 b2
  have hcl := copies_len_le g mn
  have HCF := Tre.hid (fresh_ok a ca g am cm mn w2 (HG.out.below HM2.out.below) C0.out (by omega) (HL.out.below HM2.out.below) HLM.out (by omega) (HM.out.below HM2.out.below) (by omega))
  have hfw := fresh_weight g mn
  have hflen : (g.freshG mn).ns.length = g.ns.length + (g.copiesL mn).length := Graph.fresh_len
  have hbf := beside_free (mono := mn) C0.out HLM.out (by omega)
  have HBL := Tre.hid hbf.2
  have hbw := beside_weight g (g.freshG mn)
  have hrl : g.freeL.length ≤ g.reachL.length := List.length_filter_le ..
  have hrl2 := g.reach_len
  have hgen : (g.genericL mn).length ≤ g.ns.length := by have h := List.length_filter_le (fun i => freeB (g.nd i) && (!g.markB mn i && g.markB [g.root.toNat] i)) (List.range g.ns.length); rw [List.length_range] at h; exact h
  have HBR : Hid ((besideG g (g.freshG mn)).root = ((g.freshG mn).ns.length : Int)) := rfl
  have HBN : Hid ((besideG g (g.freshG mn)).ns = (g.freshG mn).ns ++ [starN g.root (g.freshG mn).root]) := rfl
  clear hbf
  generalize hB : besideG g (g.freshG mn) = B at *
  clear hB
  generalize hf : g.freshG mn = f at *
  clear hf
  go_wp2_with fail
  refine HCF.out.mono ?_
  rintro e w4 ⟨vF, ds, rfl, hds, m4⟩
  have M4 := HM2.out.call m4
  obtain ⟨aF, cF, rfl, _⟩ := M4.val 0 rfl
  have HDS := Tre.hid hds
  have HLN : Hid (f.ns.length = ds.length) := by show _ = _; rw [← hds, List.length_map]
  have hdl : ds.length ≤ 600 := by rw [← HLN.out]; omega
  have M5 := M4.allocR #[.slice aF ds.length cF, .int .i64 f.root] 24
  obtain ⟨b5, hb5⟩ : ∃ b5 : Nat, w4.heap.size = b5 := ⟨_, rfl⟩
  rw [hb5] at M5
  obtain ⟨w5, hw5⟩ : ∃ w5 : World, w4.alloc (.cells #[.slice aF ds.length cF, .int .i64 f.root] 24) = w5 := ⟨_, rfl⟩
  rw [hw5] at M5
  obtain ⟨f0, f1⟩ := M5.two 0 rfl
  have HONE := Tre.hid (cells_one ds (fun d hd => ⟨w5, kids_val (M5.at_ 2 rfl) d hd⟩))
  have HM5 := Tre.hid M5
  clear m4 M4 M5 hds g0 g1
  go_upto_region 9 with fail
  clear hb5 hw5 f0 f1
  go_cut [8] (fun s8 wx => ∃ (b8 : Nat) (a40 : Option Addr) (c40 : Nat) (b37 : Nat), s8 = .pointer (some ⟨b8, 0, none⟩) ∧ Hid (Mem w wx [cellsR b8 24 #[.slice a40 (ds.length + 1) c40, .int .i64 (ds.length : Int)], rowR 38 5 (.slice a40 (ds.length + 1) c40) (ds.length + 1) (ds.flatMap NodeV.cells ++ [.int .i64 2, .string { data := #[42] }, .slice (some ⟨b37, 0, none⟩) 2 2, .slice none 0 0, .bool false]), cellsR b37 3 #[.int .i64 g.root, .int .i64 f.root], cellsR b5 24 #[.slice aF ds.length cF, .int .i64 f.root], nodesR (.slice aF ds.length cF) ds, kidsR ds, cellsR w.heap.size 24 #[.slice a g.ns.length ca, .int .i64 g.root]]))
  case first =>
    refine wp_region_keep (S := (fun w' => w'.cell? ⟨b5, 0, none⟩ = some (.slice aF ds.length cF) ∧ w'.cell? ⟨b5, 1, none⟩ = some (.int .i64 f.root) ∧ w'.cell? ⟨w.heap.size, 1, none⟩ = some (.int .i64 g.root))) [12, 15] (by kernel_rfl) ?_ (fun hH0 => ?_)
    · exact ⟨(HM5.out.drew.two 0 rfl).1, (HM5.out.drew.two 0 rfl).2, (HM5.out.drew.two 3 rfl).2⟩
    have H0 := Tre.hid HM5.out.drew
    generalize hq : w5.drew = wq0 at H0 hH0 ⊢
    clear hq
    refine lPure (i := 0) (some 28) (v := ?_) (by rfl) (by kernel_rfl) (by kernel_rfl) (by kernel_rfl) (by kernel_rfl) (fun _ _ _ h => h) (by rfl) ?_ (keep_of hH0) ?_
    rotate_left
    · intro w; simp only [List.getElem?_toArray, List.getElem?_cons_zero, Option.map_some, Option.some.injEq]; (first | (go_simp; done) | (go_simp; with_reducible rfl))
    try simp only [Act.put, List.setIfInBounds_toArray, List.set_cons_zero, List.set_cons_succ]
    refine lPure (i := 2) (some 30) (v := ?_) (by rfl) (by kernel_rfl) (by kernel_rfl) (by kernel_rfl) (by kernel_rfl) (fun _ _ _ h => h) (by rfl) ?_ (keep_of hH0) ?_
    rotate_left
    · intro w; simp only [List.getElem?_toArray, List.getElem?_cons_succ, List.getElem?_cons_zero, Option.map_some, Option.some.injEq]; (first | (go_simp; done) | (go_simp; with_reducible rfl))
    try simp only [Act.put, List.setIfInBounds_toArray, List.set_cons_zero, List.set_cons_succ]
    refine lPure (i := 5) (some 33) (v := ?_) (by rfl) (by kernel_rfl) (by kernel_rfl) (by kernel_rfl) (by kernel_rfl) (fun _ _ _ h => h) (by rfl) ?_ (keep_of hH0) ?_
    rotate_left
    · intro w; simp only [List.getElem?_toArray, List.getElem?_cons_succ, List.getElem?_cons_zero, Option.map_some, Option.some.injEq]; (first | (go_simp; done) | (go_simp; with_reducible rfl))
    try simp only [Act.put, List.setIfInBounds_toArray, List.set_cons_zero, List.set_cons_succ]
    refine lPure (i := 7) (some 35) (v := ?_) (by rfl) (by kernel_rfl) (by kernel_rfl) (by kernel_rfl) (by kernel_rfl) (fun _ _ _ h => h) (by rfl) ?_ (keep_of hH0) ?_
    rotate_left
    · intro w; simp only [List.getElem?_toArray, List.getElem?_cons_succ, List.getElem?_cons_zero, Option.map_some, Option.some.injEq]; (first | (go_simp; done) | (go_simp; with_reducible rfl))
    try simp only [Act.put, List.setIfInBounds_toArray, List.set_cons_zero, List.set_cons_succ]
    refine lTake (i := 3) (some 31) (v := ?_) (by rfl) (by kernel_rfl) (by kernel_rfl) (by kernel_rfl) (by kernel_rfl) (by kernel_rfl) (fun _ _ _ h => h) (by rfl) ?_ hH0 ?_
    rotate_left
    · intro w hSw; (try dsimp only at hSw); simp only [List.getElem?_toArray, List.getElem?_cons_succ, List.getElem?_cons_zero, Option.map_some, Option.some.injEq]; (first | (go_simp; done) | (go_simp; with_reducible rfl))
    try simp only [Act.put, List.setIfInBounds_toArray, List.set_cons_zero, List.set_cons_succ]
    refine lTake (i := 6) (some 34) (v := ?_) (by rfl) (by kernel_rfl) (by kernel_rfl) (by kernel_rfl) (by kernel_rfl) (by kernel_rfl) (fun _ _ _ h => h) (by rfl) ?_ hH0 ?_
    rotate_left
    · intro w hSw; (try dsimp only at hSw); simp only [List.getElem?_toArray, List.getElem?_cons_succ, List.getElem?_cons_zero, Option.map_some, Option.some.injEq]; (first | (go_simp; done) | (go_simp; with_reducible rfl))
    try simp only [Act.put, List.setIfInBounds_toArray, List.set_cons_zero, List.set_cons_succ]
    refine lTake (i := 8) (some 36) (v := ?_) (by rfl) (by kernel_rfl) (by kernel_rfl) (by kernel_rfl) (by kernel_rfl) (by kernel_rfl) (fun _ _ _ h => h) (by rfl) ?_ hH0 ?_
    rotate_left
    · intro w hSw; (try dsimp only at hSw); simp only [List.getElem?_toArray, List.getElem?_cons_succ, List.getElem?_cons_zero, Option.map_some, Option.some.injEq]; (first | (go_simp; done) | (go_simp; with_reducible rfl))
    try simp only [Act.put, List.setIfInBounds_toArray, List.set_cons_zero, List.set_cons_succ]
    refine lThree 1 9 14 (by kernel_rfl) (LStep.op (fun K hK => ?_)) (LStep.op (fun K hK => ?_)) (LStep.op (fun K hK => ?_))
    · -- 29
      go_simp
      have H1 := Tre.hid (H0.out.allocRow #[] 38 5 0 (by unfold maxLen; omega) rfl)
      generalize hb : wq0.heap.size = b29 at H1 ⊢
      generalize hw : wq0.alloc (.cells #[] 38) = wq1 at H1 ⊢
      clear hb hw
      refine hK.out _ _ ?_ (fun hH1 => ?_)
      · exact ⟨(H1.out.two 1 rfl).1, (H1.out.two 1 rfl).2, (H1.out.two 4 rfl).2⟩
      clear hK K hH0
      try simp only [Act.put, List.setIfInBounds_toArray, List.set_cons_zero, List.set_cons_succ]
      refine lThree 4 9 14 (by kernel_rfl) (LStep.op (fun K hK => ?_)) (LStep.op (fun K hK => ?_)) (LStep.op (fun K hK => ?_))
      · -- 32
        simp only [List.getElem?_toArray, List.getElem?_cons_succ, List.getElem?_cons_zero]
        rw [if_pos (by rfl)]
        refine wp_append_row _ _ _ 22 (by rfl) 38 ii _ 5 80 Try.underlying22 J1.out J2.out J3.out J4.out rfl (by omega) (.slice (some ⟨b29, 0, none⟩) 0 0) 0 ([]) (by rfl) (H1.out.row 0 rfl) aF ds.length cF (ds.flatMap NodeV.cells) (by rfl) (nrow5 (H1.out.row 2 rfl)) HONE.out (by unfold maxLen; omega) (by omega) ?_
        intro v' wq2 hown4 hgrow4 hat4
        simp only [Nat.zero_add, List.nil_append] at hown4
        have M4 := H1.out.grow 0 rfl hgrow4 hown4 hat4
        obtain ⟨a32, c32, rfl, _⟩ := M4.val 0 rfl
        have H2 := Tre.hid M4
        clear M4 hown4 hgrow4 hat4
        (try dsimp only)
        refine hK.out _ _ ?_ (fun hH2 => ?_)
        · exact ⟨(H2.out.two 1 rfl).1, (H2.out.two 1 rfl).2, (H2.out.two 4 rfl).2⟩
        clear hK K hH1
        try simp only [Act.put, List.setIfInBounds_toArray, List.set_cons_zero, List.set_cons_succ]
        refine lTwo 9 14 (by kernel_rfl) (LStep.op (fun K hK => ?_)) (LStep.op (fun K hK => ?_))
        · -- 37
          go_simp
          have H3 := Tre.hid (H2.out.allocR #[.int .i64 g.root, .int .i64 f.root] 3)
          generalize hb : wq2.heap.size = b37 at H3 ⊢
          generalize hw : wq2.alloc (.cells #[.int .i64 g.root, .int .i64 f.root] 3) = wq3 at H3 ⊢
          clear hb hw
          refine hK.out _ _ ?_ (fun hH3 => ?_)
          · exact ⟨(H3.out.two 2 rfl).1, (H3.out.two 2 rfl).2, (H3.out.two 5 rfl).2⟩
          clear hK K hH2
          try simp only [Act.put, List.setIfInBounds_toArray, List.set_cons_zero, List.set_cons_succ]
          refine lPure (i := 10) (some 38) (v := ?_) (by rfl) (by kernel_rfl) (by kernel_rfl) (by kernel_rfl) (by kernel_rfl) (fun _ _ _ h => h) (by rfl) ?_ (keep_of hH3) ?_
          rotate_left
          · intro w; simp only [List.getElem?_toArray, List.getElem?_cons_succ, List.getElem?_cons_zero, Option.map_some, Option.some.injEq]; (first | (go_simp; done) | (go_simp; with_reducible rfl))
          try simp only [Act.put, List.setIfInBounds_toArray, List.set_cons_zero, List.set_cons_succ]
          refine lTwo 11 14 (by kernel_rfl) (LStep.op (fun K hK => ?_)) (LStep.op (fun K hK => ?_))
          · -- 39
            go_simp
            have H4 := Tre.hid (H3.out.allocRow #[.int .i64 2, .string { data := #[42] }, .slice (some ⟨b37, 0, none⟩) 2 2, .slice none 0 0, .bool false] 38 5 1 (by unfold maxLen; omega) rfl)
            generalize hb : wq3.heap.size = b39 at H4 ⊢
            generalize hw : wq3.alloc (.cells #[.int .i64 2, .string { data := #[42] }, .slice (some ⟨b37, 0, none⟩) 2 2, .slice none 0 0, .bool false] 38) = wq4 at H4 ⊢
            clear hb hw
            refine hK.out _ _ ?_ (fun hH4 => ?_)
            · exact ⟨(H4.out.two 3 rfl).1, (H4.out.two 3 rfl).2, (H4.out.two 6 rfl).2⟩
            clear hK K hH3
            try simp only [Act.put, List.setIfInBounds_toArray, List.set_cons_zero, List.set_cons_succ]
            refine lTwo 12 14 (by kernel_rfl) (LFall.op (by kernel_rfl) (fun K hK => ?_)) (LStep.op (fun K hK => ?_))
            · -- 40
              simp only [List.getElem?_toArray, List.getElem?_cons_succ, List.getElem?_cons_zero]
              rw [if_pos (by rfl)]
              refine wp_append_row _ _ _ 22 (by rfl) 38 ii _ 5 80 Try.underlying22 J1.out J2.out J3.out J4.out rfl (by omega) (.slice a32 ds.length c32) ds.length (ds.flatMap NodeV.cells) (by rfl) (H4.out.row 2 rfl) (some ⟨b39, 0, none⟩) 1 1 [.int .i64 2, .string { data := #[42] }, .slice (some ⟨b37, 0, none⟩) 2 2, .slice none 0 0, .bool false] (by rfl) ⟨rfl, fun j u hj => ⟨_, 0, rfl, by rw [Nat.zero_add]; exact H4.out.cellAt 0 rfl j hj⟩⟩ (by simp [Value.oneCell']) (by unfold maxLen; omega) (by omega) ?_
              intro v' wq5 hown4 hgrow4 hat4
              have M4 := H4.out.grow 2 rfl hgrow4 hown4 hat4
              obtain ⟨a40, c40, rfl, _⟩ := M4.val 2 rfl
              have H5 := Tre.hid M4
              clear M4 hown4 hgrow4 hat4
              (try dsimp only)
              refine hK.out _ _ ?_
              clear hK K hH4
              try simp only [Act.put, List.setIfInBounds_toArray, List.set_cons_zero, List.set_cons_succ]
              refine lPure (i := 13) (some 41) (v := ?_) (by rfl) (by kernel_rfl) (by kernel_rfl) (by kernel_rfl) (by kernel_rfl) (fun _ _ _ h => h) (by rfl) ?_ (keep_fell (by kernel_rfl)) ?_
              rotate_left
              · intro w; simp only [List.getElem?_toArray, List.getElem?_cons_succ, List.getElem?_cons_zero, Option.map_some, Option.some.injEq]; (first | (go_simp; done) | (go_simp; with_reducible rfl))
              try simp only [Act.put, List.setIfInBounds_toArray, List.set_cons_zero, List.set_cons_succ]
              refine lOne 14 (by kernel_rfl) (LFall.op (by kernel_rfl) (fun K hK => ?_))
              go_simp
              have H6 := Tre.hid (H5.out.allocR #[.slice none 0 0, .int .i64 0] 24)
              generalize hb : wq5.heap.size = b8 at H6 ⊢
              generalize hw : wq5.alloc (.cells #[.slice none 0 0, .int .i64 0] 24) = wq6 at H6 ⊢
              clear hb hw
              refine hK.out _ _ ?_
              clear hK K
              try simp only [Act.put, List.setIfInBounds_toArray, List.set_cons_zero, List.set_cons_succ]
              refine lOne 15 (by kernel_rfl) (LFall.op (by kernel_rfl) (fun K hK => ?_))
              have z0 := H6.out.free 0 rfl 0
              have z1 := H6.out.free 0 rfl 1
              obtain ⟨y0, y1⟩ := H6.out.two 0 rfl
              have H7 := Tre.hid ((H6.out.setCell 0 rfl 0 (.slice a40 (ds.length + 1) c40)).setCell 0 rfl 1 (.int .i64 (ds.length : Int)))
              go_simp
              refine hK.out _ _ ?_
              clear hK K
              try simp only [Act.put, List.setIfInBounds_toArray, List.set_cons_zero, List.set_cons_succ]
              refine lDone (by kernel_rfl) ?_
              go_wp2_with fail
              go_meet
              exact ⟨b8, a40, c40, b37, rfl, (((((((((H7.out.front 1 rfl).front 7 rfl).front 7 rfl).front 7 rfl).front 7 rfl).front 6 rfl).front 7 rfl).front 7 rfl)).sub (by simp)⟩
            · -- 8
              go_simp
              have H5 := Tre.hid (H4.out.allocR #[.slice none 0 0, .int .i64 0] 24)
              generalize hb : wq4.heap.size = b8 at H5 ⊢
              generalize hw : wq4.alloc (.cells #[.slice none 0 0, .int .i64 0] 24) = wq5 at H5 ⊢
              clear hb hw
              refine hK.out _ _ ?_ (fun hH5 => ?_)
              · exact ⟨(H5.out.two 4 rfl).1, (H5.out.two 4 rfl).2, (H5.out.two 7 rfl).2⟩
              clear hK K hH4
              try simp only [Act.put, List.setIfInBounds_toArray, List.set_cons_zero, List.set_cons_succ]
              refine lOne 12 (by kernel_rfl) (LFall.op (by kernel_rfl) (fun K hK => ?_))
              simp only [List.getElem?_toArray, List.getElem?_cons_succ, List.getElem?_cons_zero]
              rw [if_pos (by rfl)]
              refine wp_append_row _ _ _ 22 (by rfl) 38 ii _ 5 80 Try.underlying22 J1.out J2.out J3.out J4.out rfl (by omega) (.slice a32 ds.length c32) ds.length (ds.flatMap NodeV.cells) (by rfl) (H5.out.row 3 rfl) (some ⟨b39, 0, none⟩) 1 1 [.int .i64 2, .string { data := #[42] }, .slice (some ⟨b37, 0, none⟩) 2 2, .slice none 0 0, .bool false] (by rfl) ⟨rfl, fun j u hj => ⟨_, 0, rfl, by rw [Nat.zero_add]; exact H5.out.cellAt 1 rfl j hj⟩⟩ (by simp [Value.oneCell']) (by unfold maxLen; omega) (by omega) ?_
              intro v' wq6 hown4 hgrow4 hat4
              have M4 := H5.out.grow 3 rfl hgrow4 hown4 hat4
              obtain ⟨a40, c40, rfl, _⟩ := M4.val 3 rfl
              have H6 := Tre.hid M4
              clear M4 hown4 hgrow4 hat4
              (try dsimp only)
              refine hK.out _ _ ?_
              clear hK K hH5
              try simp only [Act.put, List.setIfInBounds_toArray, List.set_cons_zero, List.set_cons_succ]
              refine lPure (i := 13) (some 41) (v := ?_) (by rfl) (by kernel_rfl) (by kernel_rfl) (by kernel_rfl) (by kernel_rfl) (fun _ _ _ h => h) (by rfl) ?_ (keep_fell (by kernel_rfl)) ?_
              rotate_left
              · intro w; simp only [List.getElem?_toArray, List.getElem?_cons_succ, List.getElem?_cons_zero, Option.map_some, Option.some.injEq]; (first | (go_simp; done) | (go_simp; with_reducible rfl))
              try simp only [Act.put, List.setIfInBounds_toArray, List.set_cons_zero, List.set_cons_succ]
              refine lOne 15 (by kernel_rfl) (LFall.op (by kernel_rfl) (fun K hK => ?_))
              have z0 := H6.out.free 0 rfl 0
              have z1 := H6.out.free 0 rfl 1
              obtain ⟨y0, y1⟩ := H6.out.two 0 rfl
              have H7 := Tre.hid ((H6.out.setCell 0 rfl 0 (.slice a40 (ds.length + 1) c40)).setCell 0 rfl 1 (.int .i64 (ds.length : Int)))
              go_simp
              refine hK.out _ _ ?_
              clear hK K
              try simp only [Act.put, List.setIfInBounds_toArray, List.set_cons_zero, List.set_cons_succ]
              refine lDone (by kernel_rfl) ?_
              go_wp2_with fail
              go_meet
              exact ⟨b8, a40, c40, b37, rfl, (((((((((H7.out.front 1 rfl).front 7 rfl).front 7 rfl).front 7 rfl).front 7 rfl).front 6 rfl).front 7 rfl).front 7 rfl)).sub (by simp)⟩
          · -- 8
            go_simp
            have H4 := Tre.hid (H3.out.allocR #[.slice none 0 0, .int .i64 0] 24)
            generalize hb : wq3.heap.size = b8 at H4 ⊢
            generalize hw : wq3.alloc (.cells #[.slice none 0 0, .int .i64 0] 24) = wq4 at H4 ⊢
            clear hb hw
            refine hK.out _ _ ?_ (fun hH6 => ?_)
            · exact ⟨(H4.out.two 3 rfl).1, (H4.out.two 3 rfl).2, (H4.out.two 6 rfl).2⟩
            clear hK K hH3
            try simp only [Act.put, List.setIfInBounds_toArray, List.set_cons_zero, List.set_cons_succ]
            refine lOne 11 (by kernel_rfl) (LStep.op (fun K hK => ?_))
            go_simp
            have H5 := Tre.hid (H4.out.allocRow #[.int .i64 2, .string { data := #[42] }, .slice (some ⟨b37, 0, none⟩) 2 2, .slice none 0 0, .bool false] 38 5 1 (by unfold maxLen; omega) rfl)
            generalize hb : wq4.heap.size = b39 at H5 ⊢
            generalize hw : wq4.alloc (.cells #[.int .i64 2, .string { data := #[42] }, .slice (some ⟨b37, 0, none⟩) 2 2, .slice none 0 0, .bool false] 38) = wq5 at H5 ⊢
            clear hb hw
            refine hK.out _ _ ?_ (fun hH7 => ?_)
            · exact ⟨(H5.out.two 4 rfl).1, (H5.out.two 4 rfl).2, (H5.out.two 7 rfl).2⟩
            clear hK K hH6
            try simp only [Act.put, List.setIfInBounds_toArray, List.set_cons_zero, List.set_cons_succ]
            refine lOne 12 (by kernel_rfl) (LFall.op (by kernel_rfl) (fun K hK => ?_))
            simp only [List.getElem?_toArray, List.getElem?_cons_succ, List.getElem?_cons_zero]
            rw [if_pos (by rfl)]
            refine wp_append_row _ _ _ 22 (by rfl) 38 ii _ 5 80 Try.underlying22 J1.out J2.out J3.out J4.out rfl (by omega) (.slice a32 ds.length c32) ds.length (ds.flatMap NodeV.cells) (by rfl) (H5.out.row 3 rfl) (some ⟨b39, 0, none⟩) 1 1 [.int .i64 2, .string { data := #[42] }, .slice (some ⟨b37, 0, none⟩) 2 2, .slice none 0 0, .bool false] (by rfl) ⟨rfl, fun j u hj => ⟨_, 0, rfl, by rw [Nat.zero_add]; exact H5.out.cellAt 0 rfl j hj⟩⟩ (by simp [Value.oneCell']) (by unfold maxLen; omega) (by omega) ?_
            intro v' wq6 hown4 hgrow4 hat4
            have M4 := H5.out.grow 3 rfl hgrow4 hown4 hat4
            obtain ⟨a40, c40, rfl, _⟩ := M4.val 3 rfl
            have H6 := Tre.hid M4
            clear M4 hown4 hgrow4 hat4
            (try dsimp only)
            refine hK.out _ _ ?_
            clear hK K hH7
            try simp only [Act.put, List.setIfInBounds_toArray, List.set_cons_zero, List.set_cons_succ]
            refine lPure (i := 13) (some 41) (v := ?_) (by rfl) (by kernel_rfl) (by kernel_rfl) (by kernel_rfl) (by kernel_rfl) (fun _ _ _ h => h) (by rfl) ?_ (keep_fell (by kernel_rfl)) ?_
            rotate_left
            · intro w; simp only [List.getElem?_toArray, List.getElem?_cons_succ, List.getElem?_cons_zero, Option.map_some, Option.some.injEq]; (first | (go_simp; done) | (go_simp; with_reducible rfl))
            try simp only [Act.put, List.setIfInBounds_toArray, List.set_cons_zero, List.set_cons_succ]
            refine lOne 15 (by kernel_rfl) (LFall.op (by kernel_rfl) (fun K hK => ?_))
            have z0 := H6.out.free 1 rfl 0
            have z1 := H6.out.free 1 rfl 1
            obtain ⟨y0, y1⟩ := H6.out.two 1 rfl
            have H7 := Tre.hid ((H6.out.setCell 1 rfl 0 (.slice a40 (ds.length + 1) c40)).setCell 1 rfl 1 (.int .i64 (ds.length : Int)))
            go_simp
            refine hK.out _ _ ?_
            clear hK K
            try simp only [Act.put, List.setIfInBounds_toArray, List.set_cons_zero, List.set_cons_succ]
            refine lDone (by kernel_rfl) ?_
            go_wp2_with fail
            go_meet
            exact ⟨b8, a40, c40, b37, rfl, (((((((((H7.out.front 0 rfl).front 7 rfl).front 7 rfl).front 7 rfl).front 7 rfl).front 6 rfl).front 7 rfl).front 7 rfl)).sub (by simp)⟩
        · -- 8
          go_simp
          have H3 := Tre.hid (H2.out.allocR #[.slice none 0 0, .int .i64 0] 24)
          generalize hb : wq2.heap.size = b8 at H3 ⊢
          generalize hw : wq2.alloc (.cells #[.slice none 0 0, .int .i64 0] 24) = wq3 at H3 ⊢
          clear hb hw
          refine hK.out _ _ ?_ (fun hH8 => ?_)
          · exact ⟨(H3.out.two 2 rfl).1, (H3.out.two 2 rfl).2, (H3.out.two 5 rfl).2⟩
          clear hK K hH2
          try simp only [Act.put, List.setIfInBounds_toArray, List.set_cons_zero, List.set_cons_succ]
          refine lOne 9 (by kernel_rfl) (LStep.op (fun K hK => ?_))
          go_simp
          have H4 := Tre.hid (H3.out.allocR #[.int .i64 g.root, .int .i64 f.root] 3)
          generalize hb : wq3.heap.size = b37 at H4 ⊢
          generalize hw : wq3.alloc (.cells #[.int .i64 g.root, .int .i64 f.root] 3) = wq4 at H4 ⊢
          clear hb hw
          refine hK.out _ _ ?_ (fun hH9 => ?_)
          · exact ⟨(H4.out.two 3 rfl).1, (H4.out.two 3 rfl).2, (H4.out.two 6 rfl).2⟩
          clear hK K hH8
          try simp only [Act.put, List.setIfInBounds_toArray, List.set_cons_zero, List.set_cons_succ]
          refine lPure (i := 10) (some 38) (v := ?_) (by rfl) (by kernel_rfl) (by kernel_rfl) (by kernel_rfl) (by kernel_rfl) (fun _ _ _ h => h) (by rfl) ?_ (keep_of hH9) ?_
          rotate_left
          · intro w; simp only [List.getElem?_toArray, List.getElem?_cons_succ, List.getElem?_cons_zero, Option.map_some, Option.some.injEq]; (first | (go_simp; done) | (go_simp; with_reducible rfl))
          try simp only [Act.put, List.setIfInBounds_toArray, List.set_cons_zero, List.set_cons_succ]
          refine lOne 11 (by kernel_rfl) (LStep.op (fun K hK => ?_))
          go_simp
          have H5 := Tre.hid (H4.out.allocRow #[.int .i64 2, .string { data := #[42] }, .slice (some ⟨b37, 0, none⟩) 2 2, .slice none 0 0, .bool false] 38 5 1 (by unfold maxLen; omega) rfl)
          generalize hb : wq4.heap.size = b39 at H5 ⊢
          generalize hw : wq4.alloc (.cells #[.int .i64 2, .string { data := #[42] }, .slice (some ⟨b37, 0, none⟩) 2 2, .slice none 0 0, .bool false] 38) = wq5 at H5 ⊢
          clear hb hw
          refine hK.out _ _ ?_ (fun hH10 => ?_)
          · exact ⟨(H5.out.two 4 rfl).1, (H5.out.two 4 rfl).2, (H5.out.two 7 rfl).2⟩
          clear hK K hH9
          try simp only [Act.put, List.setIfInBounds_toArray, List.set_cons_zero, List.set_cons_succ]
          refine lOne 12 (by kernel_rfl) (LFall.op (by kernel_rfl) (fun K hK => ?_))
          simp only [List.getElem?_toArray, List.getElem?_cons_succ, List.getElem?_cons_zero]
          rw [if_pos (by rfl)]
          refine wp_append_row _ _ _ 22 (by rfl) 38 ii _ 5 80 Try.underlying22 J1.out J2.out J3.out J4.out rfl (by omega) (.slice a32 ds.length c32) ds.length (ds.flatMap NodeV.cells) (by rfl) (H5.out.row 3 rfl) (some ⟨b39, 0, none⟩) 1 1 [.int .i64 2, .string { data := #[42] }, .slice (some ⟨b37, 0, none⟩) 2 2, .slice none 0 0, .bool false] (by rfl) ⟨rfl, fun j u hj => ⟨_, 0, rfl, by rw [Nat.zero_add]; exact H5.out.cellAt 0 rfl j hj⟩⟩ (by simp [Value.oneCell']) (by unfold maxLen; omega) (by omega) ?_
          intro v' wq6 hown4 hgrow4 hat4
          have M4 := H5.out.grow 3 rfl hgrow4 hown4 hat4
          obtain ⟨a40, c40, rfl, _⟩ := M4.val 3 rfl
          have H6 := Tre.hid M4
          clear M4 hown4 hgrow4 hat4
          (try dsimp only)
          refine hK.out _ _ ?_
          clear hK K hH10
          try simp only [Act.put, List.setIfInBounds_toArray, List.set_cons_zero, List.set_cons_succ]
          refine lPure (i := 13) (some 41) (v := ?_) (by rfl) (by kernel_rfl) (by kernel_rfl) (by kernel_rfl) (by kernel_rfl) (fun _ _ _ h => h) (by rfl) ?_ (keep_fell (by kernel_rfl)) ?_
          rotate_left
          · intro w; simp only [List.getElem?_toArray, List.getElem?_cons_succ, List.getElem?_cons_zero, Option.map_some, Option.some.injEq]; (first | (go_simp; done) | (go_simp; with_reducible rfl))
          try simp only [Act.put, List.setIfInBounds_toArray, List.set_cons_zero, List.set_cons_succ]
          refine lOne 15 (by kernel_rfl) (LFall.op (by kernel_rfl) (fun K hK => ?_))
          have z0 := H6.out.free 2 rfl 0
          have z1 := H6.out.free 2 rfl 1
          obtain ⟨y0, y1⟩ := H6.out.two 2 rfl
          have H7 := Tre.hid ((H6.out.setCell 2 rfl 0 (.slice a40 (ds.length + 1) c40)).setCell 2 rfl 1 (.int .i64 (ds.length : Int)))
          go_simp
          refine hK.out _ _ ?_
          clear hK K
          try simp only [Act.put, List.setIfInBounds_toArray, List.set_cons_zero, List.set_cons_succ]
          refine lDone (by kernel_rfl) ?_
          go_wp2_with fail
          go_meet
          exact ⟨b8, a40, c40, b37, rfl, (((((((((H7.out.front 0 rfl).front 7 rfl).front 7 rfl).front 7 rfl).front 7 rfl).front 5 rfl).front 7 rfl).front 7 rfl)).sub (by simp)⟩
      · -- 37
        go_simp
        have H2 := Tre.hid (H1.out.allocR #[.int .i64 g.root, .int .i64 f.root] 3)
        generalize hb : wq1.heap.size = b37 at H2 ⊢
        generalize hw : wq1.alloc (.cells #[.int .i64 g.root, .int .i64 f.root] 3) = wq2 at H2 ⊢
        clear hb hw
        refine hK.out _ _ ?_ (fun hH11 => ?_)
        · exact ⟨(H2.out.two 2 rfl).1, (H2.out.two 2 rfl).2, (H2.out.two 5 rfl).2⟩
        clear hK K hH1
        try simp only [Act.put, List.setIfInBounds_toArray, List.set_cons_zero, List.set_cons_succ]
        refine lPure (i := 10) (some 38) (v := ?_) (by rfl) (by kernel_rfl) (by kernel_rfl) (by kernel_rfl) (by kernel_rfl) (fun _ _ _ h => h) (by rfl) ?_ (keep_of hH11) ?_
        rotate_left
        · intro w; simp only [List.getElem?_toArray, List.getElem?_cons_succ, List.getElem?_cons_zero, Option.map_some, Option.some.injEq]; (first | (go_simp; done) | (go_simp; with_reducible rfl))
        try simp only [Act.put, List.setIfInBounds_toArray, List.set_cons_zero, List.set_cons_succ]
        refine lThree 4 11 14 (by kernel_rfl) (LStep.op (fun K hK => ?_)) (LStep.op (fun K hK => ?_)) (LStep.op (fun K hK => ?_))
        · -- 32
          simp only [List.getElem?_toArray, List.getElem?_cons_succ, List.getElem?_cons_zero]
          rw [if_pos (by rfl)]
          refine wp_append_row _ _ _ 22 (by rfl) 38 ii _ 5 80 Try.underlying22 J1.out J2.out J3.out J4.out rfl (by omega) (.slice (some ⟨b29, 0, none⟩) 0 0) 0 ([]) (by rfl) (H2.out.row 1 rfl) aF ds.length cF (ds.flatMap NodeV.cells) (by rfl) (nrow5 (H2.out.row 3 rfl)) HONE.out (by unfold maxLen; omega) (by omega) ?_
          intro v' wq3 hown4 hgrow4 hat4
          simp only [Nat.zero_add, List.nil_append] at hown4
          have M4 := H2.out.grow 1 rfl hgrow4 hown4 hat4
          obtain ⟨a32, c32, rfl, _⟩ := M4.val 1 rfl
          have H3 := Tre.hid M4
          clear M4 hown4 hgrow4 hat4
          (try dsimp only)
          refine hK.out _ _ ?_ (fun hH12 => ?_)
          · exact ⟨(H3.out.two 2 rfl).1, (H3.out.two 2 rfl).2, (H3.out.two 5 rfl).2⟩
          clear hK K hH11
          try simp only [Act.put, List.setIfInBounds_toArray, List.set_cons_zero, List.set_cons_succ]
          refine lTwo 11 14 (by kernel_rfl) (LStep.op (fun K hK => ?_)) (LStep.op (fun K hK => ?_))
          · -- 39
            go_simp
            have H4 := Tre.hid (H3.out.allocRow #[.int .i64 2, .string { data := #[42] }, .slice (some ⟨b37, 0, none⟩) 2 2, .slice none 0 0, .bool false] 38 5 1 (by unfold maxLen; omega) rfl)
            generalize hb : wq3.heap.size = b39 at H4 ⊢
            generalize hw : wq3.alloc (.cells #[.int .i64 2, .string { data := #[42] }, .slice (some ⟨b37, 0, none⟩) 2 2, .slice none 0 0, .bool false] 38) = wq4 at H4 ⊢
            clear hb hw
            refine hK.out _ _ ?_ (fun hH13 => ?_)
            · exact ⟨(H4.out.two 3 rfl).1, (H4.out.two 3 rfl).2, (H4.out.two 6 rfl).2⟩
            clear hK K hH12
            try simp only [Act.put, List.setIfInBounds_toArray, List.set_cons_zero, List.set_cons_succ]
            refine lTwo 12 14 (by kernel_rfl) (LFall.op (by kernel_rfl) (fun K hK => ?_)) (LStep.op (fun K hK => ?_))
            · -- 40
              simp only [List.getElem?_toArray, List.getElem?_cons_succ, List.getElem?_cons_zero]
              rw [if_pos (by rfl)]
              refine wp_append_row _ _ _ 22 (by rfl) 38 ii _ 5 80 Try.underlying22 J1.out J2.out J3.out J4.out rfl (by omega) (.slice a32 ds.length c32) ds.length (ds.flatMap NodeV.cells) (by rfl) (H4.out.row 2 rfl) (some ⟨b39, 0, none⟩) 1 1 [.int .i64 2, .string { data := #[42] }, .slice (some ⟨b37, 0, none⟩) 2 2, .slice none 0 0, .bool false] (by rfl) ⟨rfl, fun j u hj => ⟨_, 0, rfl, by rw [Nat.zero_add]; exact H4.out.cellAt 0 rfl j hj⟩⟩ (by simp [Value.oneCell']) (by unfold maxLen; omega) (by omega) ?_
              intro v' wq5 hown4 hgrow4 hat4
              have M4 := H4.out.grow 2 rfl hgrow4 hown4 hat4
              obtain ⟨a40, c40, rfl, _⟩ := M4.val 2 rfl
              have H5 := Tre.hid M4
              clear M4 hown4 hgrow4 hat4
              (try dsimp only)
              refine hK.out _ _ ?_
              clear hK K hH13
              try simp only [Act.put, List.setIfInBounds_toArray, List.set_cons_zero, List.set_cons_succ]
              refine lPure (i := 13) (some 41) (v := ?_) (by rfl) (by kernel_rfl) (by kernel_rfl) (by kernel_rfl) (by kernel_rfl) (fun _ _ _ h => h) (by rfl) ?_ (keep_fell (by kernel_rfl)) ?_
              rotate_left
              · intro w; simp only [List.getElem?_toArray, List.getElem?_cons_succ, List.getElem?_cons_zero, Option.map_some, Option.some.injEq]; (first | (go_simp; done) | (go_simp; with_reducible rfl))
              try simp only [Act.put, List.setIfInBounds_toArray, List.set_cons_zero, List.set_cons_succ]
              refine lOne 14 (by kernel_rfl) (LFall.op (by kernel_rfl) (fun K hK => ?_))
              go_simp
              have H6 := Tre.hid (H5.out.allocR #[.slice none 0 0, .int .i64 0] 24)
              generalize hb : wq5.heap.size = b8 at H6 ⊢
              generalize hw : wq5.alloc (.cells #[.slice none 0 0, .int .i64 0] 24) = wq6 at H6 ⊢
              clear hb hw
              refine hK.out _ _ ?_
              clear hK K
              try simp only [Act.put, List.setIfInBounds_toArray, List.set_cons_zero, List.set_cons_succ]
              refine lOne 15 (by kernel_rfl) (LFall.op (by kernel_rfl) (fun K hK => ?_))
              have z0 := H6.out.free 0 rfl 0
              have z1 := H6.out.free 0 rfl 1
              obtain ⟨y0, y1⟩ := H6.out.two 0 rfl
              have H7 := Tre.hid ((H6.out.setCell 0 rfl 0 (.slice a40 (ds.length + 1) c40)).setCell 0 rfl 1 (.int .i64 (ds.length : Int)))
              go_simp
              refine hK.out _ _ ?_
              clear hK K
              try simp only [Act.put, List.setIfInBounds_toArray, List.set_cons_zero, List.set_cons_succ]
              refine lDone (by kernel_rfl) ?_
              go_wp2_with fail
              go_meet
              exact ⟨b8, a40, c40, b37, rfl, (((((((((H7.out.front 1 rfl).front 7 rfl).front 7 rfl).front 7 rfl).front 7 rfl).front 6 rfl).front 7 rfl).front 7 rfl)).sub (by simp)⟩
            · -- 8
              go_simp
              have H5 := Tre.hid (H4.out.allocR #[.slice none 0 0, .int .i64 0] 24)
              generalize hb : wq4.heap.size = b8 at H5 ⊢
              generalize hw : wq4.alloc (.cells #[.slice none 0 0, .int .i64 0] 24) = wq5 at H5 ⊢
              clear hb hw
              refine hK.out _ _ ?_ (fun hH14 => ?_)
              · exact ⟨(H5.out.two 4 rfl).1, (H5.out.two 4 rfl).2, (H5.out.two 7 rfl).2⟩
              clear hK K hH13
              try simp only [Act.put, List.setIfInBounds_toArray, List.set_cons_zero, List.set_cons_succ]
              refine lOne 12 (by kernel_rfl) (LFall.op (by kernel_rfl) (fun K hK => ?_))
              simp only [List.getElem?_toArray, List.getElem?_cons_succ, List.getElem?_cons_zero]
              rw [if_pos (by rfl)]
              refine wp_append_row _ _ _ 22 (by rfl) 38 ii _ 5 80 Try.underlying22 J1.out J2.out J3.out J4.out rfl (by omega) (.slice a32 ds.length c32) ds.length (ds.flatMap NodeV.cells) (by rfl) (H5.out.row 3 rfl) (some ⟨b39, 0, none⟩) 1 1 [.int .i64 2, .string { data := #[42] }, .slice (some ⟨b37, 0, none⟩) 2 2, .slice none 0 0, .bool false] (by rfl) ⟨rfl, fun j u hj => ⟨_, 0, rfl, by rw [Nat.zero_add]; exact H5.out.cellAt 1 rfl j hj⟩⟩ (by simp [Value.oneCell']) (by unfold maxLen; omega) (by omega) ?_
              intro v' wq6 hown4 hgrow4 hat4
              have M4 := H5.out.grow 3 rfl hgrow4 hown4 hat4
              obtain ⟨a40, c40, rfl, _⟩ := M4.val 3 rfl
              have H6 := Tre.hid M4
              clear M4 hown4 hgrow4 hat4
              (try dsimp only)
              refine hK.out _ _ ?_
              clear hK K hH14
              try simp only [Act.put, List.setIfInBounds_toArray, List.set_cons_zero, List.set_cons_succ]
              refine lPure (i := 13) (some 41) (v := ?_) (by rfl) (by kernel_rfl) (by kernel_rfl) (by kernel_rfl) (by kernel_rfl) (fun _ _ _ h => h) (by rfl) ?_ (keep_fell (by kernel_rfl)) ?_
              rotate_left
              · intro w; simp only [List.getElem?_toArray, List.getElem?_cons_succ, List.getElem?_cons_zero, Option.map_some, Option.some.injEq]; (first | (go_simp; done) | (go_simp; with_reducible rfl))
              try simp only [Act.put, List.setIfInBounds_toArray, List.set_cons_zero, List.set_cons_succ]
              refine lOne 15 (by kernel_rfl) (LFall.op (by kernel_rfl) (fun K hK => ?_))
              have z0 := H6.out.free 0 rfl 0
              have z1 := H6.out.free 0 rfl 1
              obtain ⟨y0, y1⟩ := H6.out.two 0 rfl
              have H7 := Tre.hid ((H6.out.setCell 0 rfl 0 (.slice a40 (ds.length + 1) c40)).setCell 0 rfl 1 (.int .i64 (ds.length : Int)))
              go_simp
              refine hK.out _ _ ?_
              clear hK K
              try simp only [Act.put, List.setIfInBounds_toArray, List.set_cons_zero, List.set_cons_succ]
              refine lDone (by kernel_rfl) ?_
              go_wp2_with fail
              go_meet
              exact ⟨b8, a40, c40, b37, rfl, (((((((((H7.out.front 1 rfl).front 7 rfl).front 7 rfl).front 7 rfl).front 7 rfl).front 6 rfl).front 7 rfl).front 7 rfl)).sub (by simp)⟩
          · -- 8
            go_simp
            have H4 := Tre.hid (H3.out.allocR #[.slice none 0 0, .int .i64 0] 24)
            generalize hb : wq3.heap.size = b8 at H4 ⊢
            generalize hw : wq3.alloc (.cells #[.slice none 0 0, .int .i64 0] 24) = wq4 at H4 ⊢
            clear hb hw
            refine hK.out _ _ ?_ (fun hH15 => ?_)
            · exact ⟨(H4.out.two 3 rfl).1, (H4.out.two 3 rfl).2, (H4.out.two 6 rfl).2⟩
            clear hK K hH12
            try simp only [Act.put, List.setIfInBounds_toArray, List.set_cons_zero, List.set_cons_succ]
            refine lOne 11 (by kernel_rfl) (LStep.op (fun K hK => ?_))
            go_simp
            have H5 := Tre.hid (H4.out.allocRow #[.int .i64 2, .string { data := #[42] }, .slice (some ⟨b37, 0, none⟩) 2 2, .slice none 0 0, .bool false] 38 5 1 (by unfold maxLen; omega) rfl)
            generalize hb : wq4.heap.size = b39 at H5 ⊢
            generalize hw : wq4.alloc (.cells #[.int .i64 2, .string { data := #[42] }, .slice (some ⟨b37, 0, none⟩) 2 2, .slice none 0 0, .bool false] 38) = wq5 at H5 ⊢
            clear hb hw
            refine hK.out _ _ ?_ (fun hH16 => ?_)
            · exact ⟨(H5.out.two 4 rfl).1, (H5.out.two 4 rfl).2, (H5.out.two 7 rfl).2⟩
            clear hK K hH15
            try simp only [Act.put, List.setIfInBounds_toArray, List.set_cons_zero, List.set_cons_succ]
            refine lOne 12 (by kernel_rfl) (LFall.op (by kernel_rfl) (fun K hK => ?_))
            simp only [List.getElem?_toArray, List.getElem?_cons_succ, List.getElem?_cons_zero]
            rw [if_pos (by rfl)]
            refine wp_append_row _ _ _ 22 (by rfl) 38 ii _ 5 80 Try.underlying22 J1.out J2.out J3.out J4.out rfl (by omega) (.slice a32 ds.length c32) ds.length (ds.flatMap NodeV.cells) (by rfl) (H5.out.row 3 rfl) (some ⟨b39, 0, none⟩) 1 1 [.int .i64 2, .string { data := #[42] }, .slice (some ⟨b37, 0, none⟩) 2 2, .slice none 0 0, .bool false] (by rfl) ⟨rfl, fun j u hj => ⟨_, 0, rfl, by rw [Nat.zero_add]; exact H5.out.cellAt 0 rfl j hj⟩⟩ (by simp [Value.oneCell']) (by unfold maxLen; omega) (by omega) ?_
            intro v' wq6 hown4 hgrow4 hat4
            have M4 := H5.out.grow 3 rfl hgrow4 hown4 hat4
            obtain ⟨a40, c40, rfl, _⟩ := M4.val 3 rfl
            have H6 := Tre.hid M4
            clear M4 hown4 hgrow4 hat4
            (try dsimp only)
            refine hK.out _ _ ?_
            clear hK K hH16
            try simp only [Act.put, List.setIfInBounds_toArray, List.set_cons_zero, List.set_cons_succ]
            refine lPure (i := 13) (some 41) (v := ?_) (by rfl) (by kernel_rfl) (by kernel_rfl) (by kernel_rfl) (by kernel_rfl) (fun _ _ _ h => h) (by rfl) ?_ (keep_fell (by kernel_rfl)) ?_
            rotate_left
            · intro w; simp only [List.getElem?_toArray, List.getElem?_cons_succ, List.getElem?_cons_zero, Option.map_some, Option.some.injEq]; (first | (go_simp; done) | (go_simp; with_reducible rfl))
            try simp only [Act.put, List.setIfInBounds_toArray, List.set_cons_zero, List.set_cons_succ]
            refine lOne 15 (by kernel_rfl) (LFall.op (by kernel_rfl) (fun K hK => ?_))
            have z0 := H6.out.free 1 rfl 0
            have z1 := H6.out.free 1 rfl 1
            obtain ⟨y0, y1⟩ := H6.out.two 1 rfl
            have H7 := Tre.hid ((H6.out.setCell 1 rfl 0 (.slice a40 (ds.length + 1) c40)).setCell 1 rfl 1 (.int .i64 (ds.length : Int)))
            go_simp
            refine hK.out _ _ ?_
            clear hK K
            try simp only [Act.put, List.setIfInBounds_toArray, List.set_cons_zero, List.set_cons_succ]
            refine lDone (by kernel_rfl) ?_
            go_wp2_with fail
            go_meet
            exact ⟨b8, a40, c40, b37, rfl, (((((((((H7.out.front 0 rfl).front 7 rfl).front 7 rfl).front 7 rfl).front 7 rfl).front 6 rfl).front 7 rfl).front 7 rfl)).sub (by simp)⟩
        · -- 39
          go_simp
          have H3 := Tre.hid (H2.out.allocRow #[.int .i64 2, .string { data := #[42] }, .slice (some ⟨b37, 0, none⟩) 2 2, .slice none 0 0, .bool false] 38 5 1 (by unfold maxLen; omega) rfl)
          generalize hb : wq2.heap.size = b39 at H3 ⊢
          generalize hw : wq2.alloc (.cells #[.int .i64 2, .string { data := #[42] }, .slice (some ⟨b37, 0, none⟩) 2 2, .slice none 0 0, .bool false] 38) = wq3 at H3 ⊢
          clear hb hw
          refine hK.out _ _ ?_ (fun hH17 => ?_)
          · exact ⟨(H3.out.two 3 rfl).1, (H3.out.two 3 rfl).2, (H3.out.two 6 rfl).2⟩
          clear hK K hH11
          try simp only [Act.put, List.setIfInBounds_toArray, List.set_cons_zero, List.set_cons_succ]
          refine lTwo 4 14 (by kernel_rfl) (LStep.op (fun K hK => ?_)) (LStep.op (fun K hK => ?_))
          · -- 32
            simp only [List.getElem?_toArray, List.getElem?_cons_succ, List.getElem?_cons_zero]
            rw [if_pos (by rfl)]
            refine wp_append_row _ _ _ 22 (by rfl) 38 ii _ 5 80 Try.underlying22 J1.out J2.out J3.out J4.out rfl (by omega) (.slice (some ⟨b29, 0, none⟩) 0 0) 0 ([]) (by rfl) (H3.out.row 2 rfl) aF ds.length cF (ds.flatMap NodeV.cells) (by rfl) (nrow5 (H3.out.row 4 rfl)) HONE.out (by unfold maxLen; omega) (by omega) ?_
            intro v' wq4 hown4 hgrow4 hat4
            simp only [Nat.zero_add, List.nil_append] at hown4
            have M4 := H3.out.grow 2 rfl hgrow4 hown4 hat4
            obtain ⟨a32, c32, rfl, _⟩ := M4.val 2 rfl
            have H4 := Tre.hid M4
            clear M4 hown4 hgrow4 hat4
            (try dsimp only)
            refine hK.out _ _ ?_ (fun hH18 => ?_)
            · exact ⟨(H4.out.two 3 rfl).1, (H4.out.two 3 rfl).2, (H4.out.two 6 rfl).2⟩
            clear hK K hH17
            try simp only [Act.put, List.setIfInBounds_toArray, List.set_cons_zero, List.set_cons_succ]
            refine lTwo 12 14 (by kernel_rfl) (LFall.op (by kernel_rfl) (fun K hK => ?_)) (LStep.op (fun K hK => ?_))
            · -- 40
              simp only [List.getElem?_toArray, List.getElem?_cons_succ, List.getElem?_cons_zero]
              rw [if_pos (by rfl)]
              refine wp_append_row _ _ _ 22 (by rfl) 38 ii _ 5 80 Try.underlying22 J1.out J2.out J3.out J4.out rfl (by omega) (.slice a32 ds.length c32) ds.length (ds.flatMap NodeV.cells) (by rfl) (H4.out.row 2 rfl) (some ⟨b39, 0, none⟩) 1 1 [.int .i64 2, .string { data := #[42] }, .slice (some ⟨b37, 0, none⟩) 2 2, .slice none 0 0, .bool false] (by rfl) ⟨rfl, fun j u hj => ⟨_, 0, rfl, by rw [Nat.zero_add]; exact H4.out.cellAt 0 rfl j hj⟩⟩ (by simp [Value.oneCell']) (by unfold maxLen; omega) (by omega) ?_
              intro v' wq5 hown4 hgrow4 hat4
              have M4 := H4.out.grow 2 rfl hgrow4 hown4 hat4
              obtain ⟨a40, c40, rfl, _⟩ := M4.val 2 rfl
              have H5 := Tre.hid M4
              clear M4 hown4 hgrow4 hat4
              (try dsimp only)
              refine hK.out _ _ ?_
              clear hK K hH18
              try simp only [Act.put, List.setIfInBounds_toArray, List.set_cons_zero, List.set_cons_succ]
              refine lPure (i := 13) (some 41) (v := ?_) (by rfl) (by kernel_rfl) (by kernel_rfl) (by kernel_rfl) (by kernel_rfl) (fun _ _ _ h => h) (by rfl) ?_ (keep_fell (by kernel_rfl)) ?_
              rotate_left
              · intro w; simp only [List.getElem?_toArray, List.getElem?_cons_succ, List.getElem?_cons_zero, Option.map_some, Option.some.injEq]; (first | (go_simp; done) | (go_simp; with_reducible rfl))
              try simp only [Act.put, List.setIfInBounds_toArray, List.set_cons_zero, List.set_cons_succ]
              refine lOne 14 (by kernel_rfl) (LFall.op (by kernel_rfl) (fun K hK => ?_))
              go_simp
              have H6 := Tre.hid (H5.out.allocR #[.slice none 0 0, .int .i64 0] 24)
              generalize hb : wq5.heap.size = b8 at H6 ⊢
              generalize hw : wq5.alloc (.cells #[.slice none 0 0, .int .i64 0] 24) = wq6 at H6 ⊢
              clear hb hw
              refine hK.out _ _ ?_
              clear hK K
              try simp only [Act.put, List.setIfInBounds_toArray, List.set_cons_zero, List.set_cons_succ]
              refine lOne 15 (by kernel_rfl) (LFall.op (by kernel_rfl) (fun K hK => ?_))
              have z0 := H6.out.free 0 rfl 0
              have z1 := H6.out.free 0 rfl 1
              obtain ⟨y0, y1⟩ := H6.out.two 0 rfl
              have H7 := Tre.hid ((H6.out.setCell 0 rfl 0 (.slice a40 (ds.length + 1) c40)).setCell 0 rfl 1 (.int .i64 (ds.length : Int)))
              go_simp
              refine hK.out _ _ ?_
              clear hK K
              try simp only [Act.put, List.setIfInBounds_toArray, List.set_cons_zero, List.set_cons_succ]
              refine lDone (by kernel_rfl) ?_
              go_wp2_with fail
              go_meet
              exact ⟨b8, a40, c40, b37, rfl, (((((((((H7.out.front 1 rfl).front 7 rfl).front 7 rfl).front 7 rfl).front 7 rfl).front 6 rfl).front 7 rfl).front 7 rfl)).sub (by simp)⟩
            · -- 8
              go_simp
              have H5 := Tre.hid (H4.out.allocR #[.slice none 0 0, .int .i64 0] 24)
              generalize hb : wq4.heap.size = b8 at H5 ⊢
              generalize hw : wq4.alloc (.cells #[.slice none 0 0, .int .i64 0] 24) = wq5 at H5 ⊢
              clear hb hw
              refine hK.out _ _ ?_ (fun hH19 => ?_)
              · exact ⟨(H5.out.two 4 rfl).1, (H5.out.two 4 rfl).2, (H5.out.two 7 rfl).2⟩
              clear hK K hH18
              try simp only [Act.put, List.setIfInBounds_toArray, List.set_cons_zero, List.set_cons_succ]
              refine lOne 12 (by kernel_rfl) (LFall.op (by kernel_rfl) (fun K hK => ?_))
              simp only [List.getElem?_toArray, List.getElem?_cons_succ, List.getElem?_cons_zero]
              rw [if_pos (by rfl)]
              refine wp_append_row _ _ _ 22 (by rfl) 38 ii _ 5 80 Try.underlying22 J1.out J2.out J3.out J4.out rfl (by omega) (.slice a32 ds.length c32) ds.length (ds.flatMap NodeV.cells) (by rfl) (H5.out.row 3 rfl) (some ⟨b39, 0, none⟩) 1 1 [.int .i64 2, .string { data := #[42] }, .slice (some ⟨b37, 0, none⟩) 2 2, .slice none 0 0, .bool false] (by rfl) ⟨rfl, fun j u hj => ⟨_, 0, rfl, by rw [Nat.zero_add]; exact H5.out.cellAt 1 rfl j hj⟩⟩ (by simp [Value.oneCell']) (by unfold maxLen; omega) (by omega) ?_
              intro v' wq6 hown4 hgrow4 hat4
              have M4 := H5.out.grow 3 rfl hgrow4 hown4 hat4
              obtain ⟨a40, c40, rfl, _⟩ := M4.val 3 rfl
              have H6 := Tre.hid M4
              clear M4 hown4 hgrow4 hat4
              (try dsimp only)
              refine hK.out _ _ ?_
              clear hK K hH19
              try simp only [Act.put, List.setIfInBounds_toArray, List.set_cons_zero, List.set_cons_succ]
              refine lPure (i := 13) (some 41) (v := ?_) (by rfl) (by kernel_rfl) (by kernel_rfl) (by kernel_rfl) (by kernel_rfl) (fun _ _ _ h => h) (by rfl) ?_ (keep_fell (by kernel_rfl)) ?_
              rotate_left
              · intro w; simp only [List.getElem?_toArray, List.getElem?_cons_succ, List.getElem?_cons_zero, Option.map_some, Option.some.injEq]; (first | (go_simp; done) | (go_simp; with_reducible rfl))
              try simp only [Act.put, List.setIfInBounds_toArray, List.set_cons_zero, List.set_cons_succ]
              refine lOne 15 (by kernel_rfl) (LFall.op (by kernel_rfl) (fun K hK => ?_))
              have z0 := H6.out.free 0 rfl 0
              have z1 := H6.out.free 0 rfl 1
              obtain ⟨y0, y1⟩ := H6.out.two 0 rfl
              have H7 := Tre.hid ((H6.out.setCell 0 rfl 0 (.slice a40 (ds.length + 1) c40)).setCell 0 rfl 1 (.int .i64 (ds.length : Int)))
              go_simp
              refine hK.out _ _ ?_
              clear hK K
              try simp only [Act.put, List.setIfInBounds_toArray, List.set_cons_zero, List.set_cons_succ]
              refine lDone (by kernel_rfl) ?_
              go_wp2_with fail
              go_meet
              exact ⟨b8, a40, c40, b37, rfl, (((((((((H7.out.front 1 rfl).front 7 rfl).front 7 rfl).front 7 rfl).front 7 rfl).front 6 rfl).front 7 rfl).front 7 rfl)).sub (by simp)⟩
          · -- 8
            go_simp
            have H4 := Tre.hid (H3.out.allocR #[.slice none 0 0, .int .i64 0] 24)
            generalize hb : wq3.heap.size = b8 at H4 ⊢
            generalize hw : wq3.alloc (.cells #[.slice none 0 0, .int .i64 0] 24) = wq4 at H4 ⊢
            clear hb hw
            refine hK.out _ _ ?_ (fun hH20 => ?_)
            · exact ⟨(H4.out.two 4 rfl).1, (H4.out.two 4 rfl).2, (H4.out.two 7 rfl).2⟩
            clear hK K hH17
            try simp only [Act.put, List.setIfInBounds_toArray, List.set_cons_zero, List.set_cons_succ]
            refine lOne 4 (by kernel_rfl) (LStep.op (fun K hK => ?_))
            simp only [List.getElem?_toArray, List.getElem?_cons_succ, List.getElem?_cons_zero]
            rw [if_pos (by rfl)]
            refine wp_append_row _ _ _ 22 (by rfl) 38 ii _ 5 80 Try.underlying22 J1.out J2.out J3.out J4.out rfl (by omega) (.slice (some ⟨b29, 0, none⟩) 0 0) 0 ([]) (by rfl) (H4.out.row 3 rfl) aF ds.length cF (ds.flatMap NodeV.cells) (by rfl) (nrow5 (H4.out.row 5 rfl)) HONE.out (by unfold maxLen; omega) (by omega) ?_
            intro v' wq5 hown4 hgrow4 hat4
            simp only [Nat.zero_add, List.nil_append] at hown4
            have M4 := H4.out.grow 3 rfl hgrow4 hown4 hat4
            obtain ⟨a32, c32, rfl, _⟩ := M4.val 3 rfl
            have H5 := Tre.hid M4
            clear M4 hown4 hgrow4 hat4
            (try dsimp only)
            refine hK.out _ _ ?_ (fun hH21 => ?_)
            · exact ⟨(H5.out.two 4 rfl).1, (H5.out.two 4 rfl).2, (H5.out.two 7 rfl).2⟩
            clear hK K hH20
            try simp only [Act.put, List.setIfInBounds_toArray, List.set_cons_zero, List.set_cons_succ]
            refine lOne 12 (by kernel_rfl) (LFall.op (by kernel_rfl) (fun K hK => ?_))
            simp only [List.getElem?_toArray, List.getElem?_cons_succ, List.getElem?_cons_zero]
            rw [if_pos (by rfl)]
            refine wp_append_row _ _ _ 22 (by rfl) 38 ii _ 5 80 Try.underlying22 J1.out J2.out J3.out J4.out rfl (by omega) (.slice a32 ds.length c32) ds.length (ds.flatMap NodeV.cells) (by rfl) (H5.out.row 3 rfl) (some ⟨b39, 0, none⟩) 1 1 [.int .i64 2, .string { data := #[42] }, .slice (some ⟨b37, 0, none⟩) 2 2, .slice none 0 0, .bool false] (by rfl) ⟨rfl, fun j u hj => ⟨_, 0, rfl, by rw [Nat.zero_add]; exact H5.out.cellAt 1 rfl j hj⟩⟩ (by simp [Value.oneCell']) (by unfold maxLen; omega) (by omega) ?_
            intro v' wq6 hown4 hgrow4 hat4
            have M4 := H5.out.grow 3 rfl hgrow4 hown4 hat4
            obtain ⟨a40, c40, rfl, _⟩ := M4.val 3 rfl
            have H6 := Tre.hid M4
            clear M4 hown4 hgrow4 hat4
            (try dsimp only)
            refine hK.out _ _ ?_
            clear hK K hH21
            try simp only [Act.put, List.setIfInBounds_toArray, List.set_cons_zero, List.set_cons_succ]
            refine lPure (i := 13) (some 41) (v := ?_) (by rfl) (by kernel_rfl) (by kernel_rfl) (by kernel_rfl) (by kernel_rfl) (fun _ _ _ h => h) (by rfl) ?_ (keep_fell (by kernel_rfl)) ?_
            rotate_left
            · intro w; simp only [List.getElem?_toArray, List.getElem?_cons_succ, List.getElem?_cons_zero, Option.map_some, Option.some.injEq]; (first | (go_simp; done) | (go_simp; with_reducible rfl))
            try simp only [Act.put, List.setIfInBounds_toArray, List.set_cons_zero, List.set_cons_succ]
            refine lOne 15 (by kernel_rfl) (LFall.op (by kernel_rfl) (fun K hK => ?_))
            have z0 := H6.out.free 0 rfl 0
            have z1 := H6.out.free 0 rfl 1
            obtain ⟨y0, y1⟩ := H6.out.two 0 rfl
            have H7 := Tre.hid ((H6.out.setCell 0 rfl 0 (.slice a40 (ds.length + 1) c40)).setCell 0 rfl 1 (.int .i64 (ds.length : Int)))
            go_simp
            refine hK.out _ _ ?_
            clear hK K
            try simp only [Act.put, List.setIfInBounds_toArray, List.set_cons_zero, List.set_cons_succ]
            refine lDone (by kernel_rfl) ?_
            go_wp2_with fail
            go_meet
            exact ⟨b8, a40, c40, b37, rfl, (((((((((H7.out.front 1 rfl).front 7 rfl).front 7 rfl).front 7 rfl).front 7 rfl).front 6 rfl).front 7 rfl).front 7 rfl)).sub (by simp)⟩
        · -- 8
          go_simp
          have H3 := Tre.hid (H2.out.allocR #[.slice none 0 0, .int .i64 0] 24)
          generalize hb : wq2.heap.size = b8 at H3 ⊢
          generalize hw : wq2.alloc (.cells #[.slice none 0 0, .int .i64 0] 24) = wq3 at H3 ⊢
          clear hb hw
          refine hK.out _ _ ?_ (fun hH22 => ?_)
          · exact ⟨(H3.out.two 3 rfl).1, (H3.out.two 3 rfl).2, (H3.out.two 6 rfl).2⟩
          clear hK K hH11
          try simp only [Act.put, List.setIfInBounds_toArray, List.set_cons_zero, List.set_cons_succ]
          refine lTwo 4 11 (by kernel_rfl) (LStep.op (fun K hK => ?_)) (LStep.op (fun K hK => ?_))
          · -- 32
            simp only [List.getElem?_toArray, List.getElem?_cons_succ, List.getElem?_cons_zero]
            rw [if_pos (by rfl)]
            refine wp_append_row _ _ _ 22 (by rfl) 38 ii _ 5 80 Try.underlying22 J1.out J2.out J3.out J4.out rfl (by omega) (.slice (some ⟨b29, 0, none⟩) 0 0) 0 ([]) (by rfl) (H3.out.row 2 rfl) aF ds.length cF (ds.flatMap NodeV.cells) (by rfl) (nrow5 (H3.out.row 4 rfl)) HONE.out (by unfold maxLen; omega) (by omega) ?_
            intro v' wq4 hown4 hgrow4 hat4
            simp only [Nat.zero_add, List.nil_append] at hown4
            have M4 := H3.out.grow 2 rfl hgrow4 hown4 hat4
            obtain ⟨a32, c32, rfl, _⟩ := M4.val 2 rfl
            have H4 := Tre.hid M4
            clear M4 hown4 hgrow4 hat4
            (try dsimp only)
            refine hK.out _ _ ?_ (fun hH23 => ?_)
            · exact ⟨(H4.out.two 3 rfl).1, (H4.out.two 3 rfl).2, (H4.out.two 6 rfl).2⟩
            clear hK K hH22
            try simp only [Act.put, List.setIfInBounds_toArray, List.set_cons_zero, List.set_cons_succ]
            refine lOne 11 (by kernel_rfl) (LStep.op (fun K hK => ?_))
            go_simp
            have H5 := Tre.hid (H4.out.allocRow #[.int .i64 2, .string { data := #[42] }, .slice (some ⟨b37, 0, none⟩) 2 2, .slice none 0 0, .bool false] 38 5 1 (by unfold maxLen; omega) rfl)
            generalize hb : wq4.heap.size = b39 at H5 ⊢
            generalize hw : wq4.alloc (.cells #[.int .i64 2, .string { data := #[42] }, .slice (some ⟨b37, 0, none⟩) 2 2, .slice none 0 0, .bool false] 38) = wq5 at H5 ⊢
            clear hb hw
            refine hK.out _ _ ?_ (fun hH24 => ?_)
            · exact ⟨(H5.out.two 4 rfl).1, (H5.out.two 4 rfl).2, (H5.out.two 7 rfl).2⟩
            clear hK K hH23
            try simp only [Act.put, List.setIfInBounds_toArray, List.set_cons_zero, List.set_cons_succ]
            refine lOne 12 (by kernel_rfl) (LFall.op (by kernel_rfl) (fun K hK => ?_))
            simp only [List.getElem?_toArray, List.getElem?_cons_succ, List.getElem?_cons_zero]
            rw [if_pos (by rfl)]
            refine wp_append_row _ _ _ 22 (by rfl) 38 ii _ 5 80 Try.underlying22 J1.out J2.out J3.out J4.out rfl (by omega) (.slice a32 ds.length c32) ds.length (ds.flatMap NodeV.cells) (by rfl) (H5.out.row 3 rfl) (some ⟨b39, 0, none⟩) 1 1 [.int .i64 2, .string { data := #[42] }, .slice (some ⟨b37, 0, none⟩) 2 2, .slice none 0 0, .bool false] (by rfl) ⟨rfl, fun j u hj => ⟨_, 0, rfl, by rw [Nat.zero_add]; exact H5.out.cellAt 0 rfl j hj⟩⟩ (by simp [Value.oneCell']) (by unfold maxLen; omega) (by omega) ?_
            intro v' wq6 hown4 hgrow4 hat4
            have M4 := H5.out.grow 3 rfl hgrow4 hown4 hat4
            obtain ⟨a40, c40, rfl, _⟩ := M4.val 3 rfl
            have H6 := Tre.hid M4
            clear M4 hown4 hgrow4 hat4
            (try dsimp only)
            refine hK.out _ _ ?_
            clear hK K hH24
            try simp only [Act.put, List.setIfInBounds_toArray, List.set_cons_zero, List.set_cons_succ]
            refine lPure (i := 13) (some 41) (v := ?_) (by rfl) (by kernel_rfl) (by kernel_rfl) (by kernel_rfl) (by kernel_rfl) (fun _ _ _ h => h) (by rfl) ?_ (keep_fell (by kernel_rfl)) ?_
            rotate_left
            · intro w; simp only [List.getElem?_toArray, List.getElem?_cons_succ, List.getElem?_cons_zero, Option.map_some, Option.some.injEq]; (first | (go_simp; done) | (go_simp; with_reducible rfl))
            try simp only [Act.put, List.setIfInBounds_toArray, List.set_cons_zero, List.set_cons_succ]
            refine lOne 15 (by kernel_rfl) (LFall.op (by kernel_rfl) (fun K hK => ?_))
            have z0 := H6.out.free 1 rfl 0
            have z1 := H6.out.free 1 rfl 1
            obtain ⟨y0, y1⟩ := H6.out.two 1 rfl
            have H7 := Tre.hid ((H6.out.setCell 1 rfl 0 (.slice a40 (ds.length + 1) c40)).setCell 1 rfl 1 (.int .i64 (ds.length : Int)))
            go_simp
            refine hK.out _ _ ?_
            clear hK K
            try simp only [Act.put, List.setIfInBounds_toArray, List.set_cons_zero, List.set_cons_succ]
            refine lDone (by kernel_rfl) ?_
            go_wp2_with fail
            go_meet
            exact ⟨b8, a40, c40, b37, rfl, (((((((((H7.out.front 0 rfl).front 7 rfl).front 7 rfl).front 7 rfl).front 7 rfl).front 6 rfl).front 7 rfl).front 7 rfl)).sub (by simp)⟩
          · -- 39
            go_simp
            have H4 := Tre.hid (H3.out.allocRow #[.int .i64 2, .string { data := #[42] }, .slice (some ⟨b37, 0, none⟩) 2 2, .slice none 0 0, .bool false] 38 5 1 (by unfold maxLen; omega) rfl)
            generalize hb : wq3.heap.size = b39 at H4 ⊢
            generalize hw : wq3.alloc (.cells #[.int .i64 2, .string { data := #[42] }, .slice (some ⟨b37, 0, none⟩) 2 2, .slice none 0 0, .bool false] 38) = wq4 at H4 ⊢
            clear hb hw
            refine hK.out _ _ ?_ (fun hH25 => ?_)
            · exact ⟨(H4.out.two 4 rfl).1, (H4.out.two 4 rfl).2, (H4.out.two 7 rfl).2⟩
            clear hK K hH22
            try simp only [Act.put, List.setIfInBounds_toArray, List.set_cons_zero, List.set_cons_succ]
            refine lOne 4 (by kernel_rfl) (LStep.op (fun K hK => ?_))
            simp only [List.getElem?_toArray, List.getElem?_cons_succ, List.getElem?_cons_zero]
            rw [if_pos (by rfl)]
            refine wp_append_row _ _ _ 22 (by rfl) 38 ii _ 5 80 Try.underlying22 J1.out J2.out J3.out J4.out rfl (by omega) (.slice (some ⟨b29, 0, none⟩) 0 0) 0 ([]) (by rfl) (H4.out.row 3 rfl) aF ds.length cF (ds.flatMap NodeV.cells) (by rfl) (nrow5 (H4.out.row 5 rfl)) HONE.out (by unfold maxLen; omega) (by omega) ?_
            intro v' wq5 hown4 hgrow4 hat4
            simp only [Nat.zero_add, List.nil_append] at hown4
            have M4 := H4.out.grow 3 rfl hgrow4 hown4 hat4
            obtain ⟨a32, c32, rfl, _⟩ := M4.val 3 rfl
            have H5 := Tre.hid M4
            clear M4 hown4 hgrow4 hat4
            (try dsimp only)
            refine hK.out _ _ ?_ (fun hH26 => ?_)
            · exact ⟨(H5.out.two 4 rfl).1, (H5.out.two 4 rfl).2, (H5.out.two 7 rfl).2⟩
            clear hK K hH25
            try simp only [Act.put, List.setIfInBounds_toArray, List.set_cons_zero, List.set_cons_succ]
            refine lOne 12 (by kernel_rfl) (LFall.op (by kernel_rfl) (fun K hK => ?_))
            simp only [List.getElem?_toArray, List.getElem?_cons_succ, List.getElem?_cons_zero]
            rw [if_pos (by rfl)]
            refine wp_append_row _ _ _ 22 (by rfl) 38 ii _ 5 80 Try.underlying22 J1.out J2.out J3.out J4.out rfl (by omega) (.slice a32 ds.length c32) ds.length (ds.flatMap NodeV.cells) (by rfl) (H5.out.row 3 rfl) (some ⟨b39, 0, none⟩) 1 1 [.int .i64 2, .string { data := #[42] }, .slice (some ⟨b37, 0, none⟩) 2 2, .slice none 0 0, .bool false] (by rfl) ⟨rfl, fun j u hj => ⟨_, 0, rfl, by rw [Nat.zero_add]; exact H5.out.cellAt 0 rfl j hj⟩⟩ (by simp [Value.oneCell']) (by unfold maxLen; omega) (by omega) ?_
            intro v' wq6 hown4 hgrow4 hat4
            have M4 := H5.out.grow 3 rfl hgrow4 hown4 hat4
            obtain ⟨a40, c40, rfl, _⟩ := M4.val 3 rfl
            have H6 := Tre.hid M4
            clear M4 hown4 hgrow4 hat4
            (try dsimp only)
            refine hK.out _ _ ?_
            clear hK K hH26
            try simp only [Act.put, List.setIfInBounds_toArray, List.set_cons_zero, List.set_cons_succ]
            refine lPure (i := 13) (some 41) (v := ?_) (by rfl) (by kernel_rfl) (by kernel_rfl) (by kernel_rfl) (by kernel_rfl) (fun _ _ _ h => h) (by rfl) ?_ (keep_fell (by kernel_rfl)) ?_
            rotate_left
            · intro w; simp only [List.getElem?_toArray, List.getElem?_cons_succ, List.getElem?_cons_zero, Option.map_some, Option.some.injEq]; (first | (go_simp; done) | (go_simp; with_reducible rfl))
            try simp only [Act.put, List.setIfInBounds_toArray, List.set_cons_zero, List.set_cons_succ]
            refine lOne 15 (by kernel_rfl) (LFall.op (by kernel_rfl) (fun K hK => ?_))
            have z0 := H6.out.free 1 rfl 0
            have z1 := H6.out.free 1 rfl 1
            obtain ⟨y0, y1⟩ := H6.out.two 1 rfl
            have H7 := Tre.hid ((H6.out.setCell 1 rfl 0 (.slice a40 (ds.length + 1) c40)).setCell 1 rfl 1 (.int .i64 (ds.length : Int)))
            go_simp
            refine hK.out _ _ ?_
            clear hK K
            try simp only [Act.put, List.setIfInBounds_toArray, List.set_cons_zero, List.set_cons_succ]
            refine lDone (by kernel_rfl) ?_
            go_wp2_with fail
            go_meet
            exact ⟨b8, a40, c40, b37, rfl, (((((((((H7.out.front 0 rfl).front 7 rfl).front 7 rfl).front 7 rfl).front 7 rfl).front 6 rfl).front 7 rfl).front 7 rfl)).sub (by simp)⟩
      · -- 8
        go_simp
        have H2 := Tre.hid (H1.out.allocR #[.slice none 0 0, .int .i64 0] 24)
        generalize hb : wq1.heap.size = b8 at H2 ⊢
        generalize hw : wq1.alloc (.cells #[.slice none 0 0, .int .i64 0] 24) = wq2 at H2 ⊢
        clear hb hw
        refine hK.out _ _ ?_ (fun hH27 => ?_)
        · exact ⟨(H2.out.two 2 rfl).1, (H2.out.two 2 rfl).2, (H2.out.two 5 rfl).2⟩
        clear hK K hH1
        try simp only [Act.put, List.setIfInBounds_toArray, List.set_cons_zero, List.set_cons_succ]
        refine lTwo 4 9 (by kernel_rfl) (LStep.op (fun K hK => ?_)) (LStep.op (fun K hK => ?_))
        · -- 32
          simp only [List.getElem?_toArray, List.getElem?_cons_succ, List.getElem?_cons_zero]
          rw [if_pos (by rfl)]
          refine wp_append_row _ _ _ 22 (by rfl) 38 ii _ 5 80 Try.underlying22 J1.out J2.out J3.out J4.out rfl (by omega) (.slice (some ⟨b29, 0, none⟩) 0 0) 0 ([]) (by rfl) (H2.out.row 1 rfl) aF ds.length cF (ds.flatMap NodeV.cells) (by rfl) (nrow5 (H2.out.row 3 rfl)) HONE.out (by unfold maxLen; omega) (by omega) ?_
          intro v' wq3 hown4 hgrow4 hat4
          simp only [Nat.zero_add, List.nil_append] at hown4
          have M4 := H2.out.grow 1 rfl hgrow4 hown4 hat4
          obtain ⟨a32, c32, rfl, _⟩ := M4.val 1 rfl
          have H3 := Tre.hid M4
          clear M4 hown4 hgrow4 hat4
          (try dsimp only)
          refine hK.out _ _ ?_ (fun hH28 => ?_)
          · exact ⟨(H3.out.two 2 rfl).1, (H3.out.two 2 rfl).2, (H3.out.two 5 rfl).2⟩
          clear hK K hH27
          try simp only [Act.put, List.setIfInBounds_toArray, List.set_cons_zero, List.set_cons_succ]
          refine lOne 9 (by kernel_rfl) (LStep.op (fun K hK => ?_))
          go_simp
          have H4 := Tre.hid (H3.out.allocR #[.int .i64 g.root, .int .i64 f.root] 3)
          generalize hb : wq3.heap.size = b37 at H4 ⊢
          generalize hw : wq3.alloc (.cells #[.int .i64 g.root, .int .i64 f.root] 3) = wq4 at H4 ⊢
          clear hb hw
          refine hK.out _ _ ?_ (fun hH29 => ?_)
          · exact ⟨(H4.out.two 3 rfl).1, (H4.out.two 3 rfl).2, (H4.out.two 6 rfl).2⟩
          clear hK K hH28
          try simp only [Act.put, List.setIfInBounds_toArray, List.set_cons_zero, List.set_cons_succ]
          refine lPure (i := 10) (some 38) (v := ?_) (by rfl) (by kernel_rfl) (by kernel_rfl) (by kernel_rfl) (by kernel_rfl) (fun _ _ _ h => h) (by rfl) ?_ (keep_of hH29) ?_
          rotate_left
          · intro w; simp only [List.getElem?_toArray, List.getElem?_cons_succ, List.getElem?_cons_zero, Option.map_some, Option.some.injEq]; (first | (go_simp; done) | (go_simp; with_reducible rfl))
          try simp only [Act.put, List.setIfInBounds_toArray, List.set_cons_zero, List.set_cons_succ]
          refine lOne 11 (by kernel_rfl) (LStep.op (fun K hK => ?_))
          go_simp
          have H5 := Tre.hid (H4.out.allocRow #[.int .i64 2, .string { data := #[42] }, .slice (some ⟨b37, 0, none⟩) 2 2, .slice none 0 0, .bool false] 38 5 1 (by unfold maxLen; omega) rfl)
          generalize hb : wq4.heap.size = b39 at H5 ⊢
          generalize hw : wq4.alloc (.cells #[.int .i64 2, .string { data := #[42] }, .slice (some ⟨b37, 0, none⟩) 2 2, .slice none 0 0, .bool false] 38) = wq5 at H5 ⊢
          clear hb hw
          refine hK.out _ _ ?_ (fun hH30 => ?_)
          · exact ⟨(H5.out.two 4 rfl).1, (H5.out.two 4 rfl).2, (H5.out.two 7 rfl).2⟩
          clear hK K hH29
          try simp only [Act.put, List.setIfInBounds_toArray, List.set_cons_zero, List.set_cons_succ]
          refine lOne 12 (by kernel_rfl) (LFall.op (by kernel_rfl) (fun K hK => ?_))
          simp only [List.getElem?_toArray, List.getElem?_cons_succ, List.getElem?_cons_zero]
          rw [if_pos (by rfl)]
          refine wp_append_row _ _ _ 22 (by rfl) 38 ii _ 5 80 Try.underlying22 J1.out J2.out J3.out J4.out rfl (by omega) (.slice a32 ds.length c32) ds.length (ds.flatMap NodeV.cells) (by rfl) (H5.out.row 3 rfl) (some ⟨b39, 0, none⟩) 1 1 [.int .i64 2, .string { data := #[42] }, .slice (some ⟨b37, 0, none⟩) 2 2, .slice none 0 0, .bool false] (by rfl) ⟨rfl, fun j u hj => ⟨_, 0, rfl, by rw [Nat.zero_add]; exact H5.out.cellAt 0 rfl j hj⟩⟩ (by simp [Value.oneCell']) (by unfold maxLen; omega) (by omega) ?_
          intro v' wq6 hown4 hgrow4 hat4
          have M4 := H5.out.grow 3 rfl hgrow4 hown4 hat4
          obtain ⟨a40, c40, rfl, _⟩ := M4.val 3 rfl
          have H6 := Tre.hid M4
          clear M4 hown4 hgrow4 hat4
          (try dsimp only)
          refine hK.out _ _ ?_
          clear hK K hH30
          try simp only [Act.put, List.setIfInBounds_toArray, List.set_cons_zero, List.set_cons_succ]
          refine lPure (i := 13) (some 41) (v := ?_) (by rfl) (by kernel_rfl) (by kernel_rfl) (by kernel_rfl) (by kernel_rfl) (fun _ _ _ h => h) (by rfl) ?_ (keep_fell (by kernel_rfl)) ?_
          rotate_left
          · intro w; simp only [List.getElem?_toArray, List.getElem?_cons_succ, List.getElem?_cons_zero, Option.map_some, Option.some.injEq]; (first | (go_simp; done) | (go_simp; with_reducible rfl))
          try simp only [Act.put, List.setIfInBounds_toArray, List.set_cons_zero, List.set_cons_succ]
          refine lOne 15 (by kernel_rfl) (LFall.op (by kernel_rfl) (fun K hK => ?_))
          have z0 := H6.out.free 2 rfl 0
          have z1 := H6.out.free 2 rfl 1
          obtain ⟨y0, y1⟩ := H6.out.two 2 rfl
          have H7 := Tre.hid ((H6.out.setCell 2 rfl 0 (.slice a40 (ds.length + 1) c40)).setCell 2 rfl 1 (.int .i64 (ds.length : Int)))
          go_simp
          refine hK.out _ _ ?_
          clear hK K
          try simp only [Act.put, List.setIfInBounds_toArray, List.set_cons_zero, List.set_cons_succ]
          refine lDone (by kernel_rfl) ?_
          go_wp2_with fail
          go_meet
          exact ⟨b8, a40, c40, b37, rfl, (((((((((H7.out.front 0 rfl).front 7 rfl).front 7 rfl).front 7 rfl).front 7 rfl).front 5 rfl).front 7 rfl).front 7 rfl)).sub (by simp)⟩
        · -- 37
          go_simp
          have H3 := Tre.hid (H2.out.allocR #[.int .i64 g.root, .int .i64 f.root] 3)
          generalize hb : wq2.heap.size = b37 at H3 ⊢
          generalize hw : wq2.alloc (.cells #[.int .i64 g.root, .int .i64 f.root] 3) = wq3 at H3 ⊢
          clear hb hw
          refine hK.out _ _ ?_ (fun hH31 => ?_)
          · exact ⟨(H3.out.two 3 rfl).1, (H3.out.two 3 rfl).2, (H3.out.two 6 rfl).2⟩
          clear hK K hH27
          try simp only [Act.put, List.setIfInBounds_toArray, List.set_cons_zero, List.set_cons_succ]
          refine lPure (i := 10) (some 38) (v := ?_) (by rfl) (by kernel_rfl) (by kernel_rfl) (by kernel_rfl) (by kernel_rfl) (fun _ _ _ h => h) (by rfl) ?_ (keep_of hH31) ?_
          rotate_left
          · intro w; simp only [List.getElem?_toArray, List.getElem?_cons_succ, List.getElem?_cons_zero, Option.map_some, Option.some.injEq]; (first | (go_simp; done) | (go_simp; with_reducible rfl))
          try simp only [Act.put, List.setIfInBounds_toArray, List.set_cons_zero, List.set_cons_succ]
          refine lTwo 4 11 (by kernel_rfl) (LStep.op (fun K hK => ?_)) (LStep.op (fun K hK => ?_))
          · -- 32
            simp only [List.getElem?_toArray, List.getElem?_cons_succ, List.getElem?_cons_zero]
            rw [if_pos (by rfl)]
            refine wp_append_row _ _ _ 22 (by rfl) 38 ii _ 5 80 Try.underlying22 J1.out J2.out J3.out J4.out rfl (by omega) (.slice (some ⟨b29, 0, none⟩) 0 0) 0 ([]) (by rfl) (H3.out.row 2 rfl) aF ds.length cF (ds.flatMap NodeV.cells) (by rfl) (nrow5 (H3.out.row 4 rfl)) HONE.out (by unfold maxLen; omega) (by omega) ?_
            intro v' wq4 hown4 hgrow4 hat4
            simp only [Nat.zero_add, List.nil_append] at hown4
            have M4 := H3.out.grow 2 rfl hgrow4 hown4 hat4
            obtain ⟨a32, c32, rfl, _⟩ := M4.val 2 rfl
            have H4 := Tre.hid M4
            clear M4 hown4 hgrow4 hat4
            (try dsimp only)
            refine hK.out _ _ ?_ (fun hH32 => ?_)
            · exact ⟨(H4.out.two 3 rfl).1, (H4.out.two 3 rfl).2, (H4.out.two 6 rfl).2⟩
            clear hK K hH31
            try simp only [Act.put, List.setIfInBounds_toArray, List.set_cons_zero, List.set_cons_succ]
            refine lOne 11 (by kernel_rfl) (LStep.op (fun K hK => ?_))
            go_simp
            have H5 := Tre.hid (H4.out.allocRow #[.int .i64 2, .string { data := #[42] }, .slice (some ⟨b37, 0, none⟩) 2 2, .slice none 0 0, .bool false] 38 5 1 (by unfold maxLen; omega) rfl)
            generalize hb : wq4.heap.size = b39 at H5 ⊢
            generalize hw : wq4.alloc (.cells #[.int .i64 2, .string { data := #[42] }, .slice (some ⟨b37, 0, none⟩) 2 2, .slice none 0 0, .bool false] 38) = wq5 at H5 ⊢
            clear hb hw
            refine hK.out _ _ ?_ (fun hH33 => ?_)
            · exact ⟨(H5.out.two 4 rfl).1, (H5.out.two 4 rfl).2, (H5.out.two 7 rfl).2⟩
            clear hK K hH32
            try simp only [Act.put, List.setIfInBounds_toArray, List.set_cons_zero, List.set_cons_succ]
            refine lOne 12 (by kernel_rfl) (LFall.op (by kernel_rfl) (fun K hK => ?_))
            simp only [List.getElem?_toArray, List.getElem?_cons_succ, List.getElem?_cons_zero]
            rw [if_pos (by rfl)]
            refine wp_append_row _ _ _ 22 (by rfl) 38 ii _ 5 80 Try.underlying22 J1.out J2.out J3.out J4.out rfl (by omega) (.slice a32 ds.length c32) ds.length (ds.flatMap NodeV.cells) (by rfl) (H5.out.row 3 rfl) (some ⟨b39, 0, none⟩) 1 1 [.int .i64 2, .string { data := #[42] }, .slice (some ⟨b37, 0, none⟩) 2 2, .slice none 0 0, .bool false] (by rfl) ⟨rfl, fun j u hj => ⟨_, 0, rfl, by rw [Nat.zero_add]; exact H5.out.cellAt 0 rfl j hj⟩⟩ (by simp [Value.oneCell']) (by unfold maxLen; omega) (by omega) ?_
            intro v' wq6 hown4 hgrow4 hat4
            have M4 := H5.out.grow 3 rfl hgrow4 hown4 hat4
            obtain ⟨a40, c40, rfl, _⟩ := M4.val 3 rfl
            have H6 := Tre.hid M4
            clear M4 hown4 hgrow4 hat4
            (try dsimp only)
            refine hK.out _ _ ?_
            clear hK K hH33
            try simp only [Act.put, List.setIfInBounds_toArray, List.set_cons_zero, List.set_cons_succ]
            refine lPure (i := 13) (some 41) (v := ?_) (by rfl) (by kernel_rfl) (by kernel_rfl) (by kernel_rfl) (by kernel_rfl) (fun _ _ _ h => h) (by rfl) ?_ (keep_fell (by kernel_rfl)) ?_
            rotate_left
            · intro w; simp only [List.getElem?_toArray, List.getElem?_cons_succ, List.getElem?_cons_zero, Option.map_some, Option.some.injEq]; (first | (go_simp; done) | (go_simp; with_reducible rfl))
            try simp only [Act.put, List.setIfInBounds_toArray, List.set_cons_zero, List.set_cons_succ]
            refine lOne 15 (by kernel_rfl) (LFall.op (by kernel_rfl) (fun K hK => ?_))
            have z0 := H6.out.free 2 rfl 0
            have z1 := H6.out.free 2 rfl 1
            obtain ⟨y0, y1⟩ := H6.out.two 2 rfl
            have H7 := Tre.hid ((H6.out.setCell 2 rfl 0 (.slice a40 (ds.length + 1) c40)).setCell 2 rfl 1 (.int .i64 (ds.length : Int)))
            go_simp
            refine hK.out _ _ ?_
            clear hK K
            try simp only [Act.put, List.setIfInBounds_toArray, List.set_cons_zero, List.set_cons_succ]
            refine lDone (by kernel_rfl) ?_
            go_wp2_with fail
            go_meet
            exact ⟨b8, a40, c40, b37, rfl, (((((((((H7.out.front 0 rfl).front 7 rfl).front 7 rfl).front 7 rfl).front 7 rfl).front 5 rfl).front 7 rfl).front 7 rfl)).sub (by simp)⟩
          · -- 39
            go_simp
            have H4 := Tre.hid (H3.out.allocRow #[.int .i64 2, .string { data := #[42] }, .slice (some ⟨b37, 0, none⟩) 2 2, .slice none 0 0, .bool false] 38 5 1 (by unfold maxLen; omega) rfl)
            generalize hb : wq3.heap.size = b39 at H4 ⊢
            generalize hw : wq3.alloc (.cells #[.int .i64 2, .string { data := #[42] }, .slice (some ⟨b37, 0, none⟩) 2 2, .slice none 0 0, .bool false] 38) = wq4 at H4 ⊢
            clear hb hw
            refine hK.out _ _ ?_ (fun hH34 => ?_)
            · exact ⟨(H4.out.two 4 rfl).1, (H4.out.two 4 rfl).2, (H4.out.two 7 rfl).2⟩
            clear hK K hH31
            try simp only [Act.put, List.setIfInBounds_toArray, List.set_cons_zero, List.set_cons_succ]
            refine lOne 4 (by kernel_rfl) (LStep.op (fun K hK => ?_))
            simp only [List.getElem?_toArray, List.getElem?_cons_succ, List.getElem?_cons_zero]
            rw [if_pos (by rfl)]
            refine wp_append_row _ _ _ 22 (by rfl) 38 ii _ 5 80 Try.underlying22 J1.out J2.out J3.out J4.out rfl (by omega) (.slice (some ⟨b29, 0, none⟩) 0 0) 0 ([]) (by rfl) (H4.out.row 3 rfl) aF ds.length cF (ds.flatMap NodeV.cells) (by rfl) (nrow5 (H4.out.row 5 rfl)) HONE.out (by unfold maxLen; omega) (by omega) ?_
            intro v' wq5 hown4 hgrow4 hat4
            simp only [Nat.zero_add, List.nil_append] at hown4
            have M4 := H4.out.grow 3 rfl hgrow4 hown4 hat4
            obtain ⟨a32, c32, rfl, _⟩ := M4.val 3 rfl
            have H5 := Tre.hid M4
            clear M4 hown4 hgrow4 hat4
            (try dsimp only)
            refine hK.out _ _ ?_ (fun hH35 => ?_)
            · exact ⟨(H5.out.two 4 rfl).1, (H5.out.two 4 rfl).2, (H5.out.two 7 rfl).2⟩
            clear hK K hH34
            try simp only [Act.put, List.setIfInBounds_toArray, List.set_cons_zero, List.set_cons_succ]
            refine lOne 12 (by kernel_rfl) (LFall.op (by kernel_rfl) (fun K hK => ?_))
            simp only [List.getElem?_toArray, List.getElem?_cons_succ, List.getElem?_cons_zero]
            rw [if_pos (by rfl)]
            refine wp_append_row _ _ _ 22 (by rfl) 38 ii _ 5 80 Try.underlying22 J1.out J2.out J3.out J4.out rfl (by omega) (.slice a32 ds.length c32) ds.length (ds.flatMap NodeV.cells) (by rfl) (H5.out.row 3 rfl) (some ⟨b39, 0, none⟩) 1 1 [.int .i64 2, .string { data := #[42] }, .slice (some ⟨b37, 0, none⟩) 2 2, .slice none 0 0, .bool false] (by rfl) ⟨rfl, fun j u hj => ⟨_, 0, rfl, by rw [Nat.zero_add]; exact H5.out.cellAt 0 rfl j hj⟩⟩ (by simp [Value.oneCell']) (by unfold maxLen; omega) (by omega) ?_
            intro v' wq6 hown4 hgrow4 hat4
            have M4 := H5.out.grow 3 rfl hgrow4 hown4 hat4
            obtain ⟨a40, c40, rfl, _⟩ := M4.val 3 rfl
            have H6 := Tre.hid M4
            clear M4 hown4 hgrow4 hat4
            (try dsimp only)
            refine hK.out _ _ ?_
            clear hK K hH35
            try simp only [Act.put, List.setIfInBounds_toArray, List.set_cons_zero, List.set_cons_succ]
            refine lPure (i := 13) (some 41) (v := ?_) (by rfl) (by kernel_rfl) (by kernel_rfl) (by kernel_rfl) (by kernel_rfl) (fun _ _ _ h => h) (by rfl) ?_ (keep_fell (by kernel_rfl)) ?_
            rotate_left
            · intro w; simp only [List.getElem?_toArray, List.getElem?_cons_succ, List.getElem?_cons_zero, Option.map_some, Option.some.injEq]; (first | (go_simp; done) | (go_simp; with_reducible rfl))
            try simp only [Act.put, List.setIfInBounds_toArray, List.set_cons_zero, List.set_cons_succ]
            refine lOne 15 (by kernel_rfl) (LFall.op (by kernel_rfl) (fun K hK => ?_))
            have z0 := H6.out.free 2 rfl 0
            have z1 := H6.out.free 2 rfl 1
            obtain ⟨y0, y1⟩ := H6.out.two 2 rfl
            have H7 := Tre.hid ((H6.out.setCell 2 rfl 0 (.slice a40 (ds.length + 1) c40)).setCell 2 rfl 1 (.int .i64 (ds.length : Int)))
            go_simp
            refine hK.out _ _ ?_
            clear hK K
            try simp only [Act.put, List.setIfInBounds_toArray, List.set_cons_zero, List.set_cons_succ]
            refine lDone (by kernel_rfl) ?_
            go_wp2_with fail
            go_meet
            exact ⟨b8, a40, c40, b37, rfl, (((((((((H7.out.front 0 rfl).front 7 rfl).front 7 rfl).front 7 rfl).front 7 rfl).front 5 rfl).front 7 rfl).front 7 rfl)).sub (by simp)⟩
    · -- 37
      go_simp
      have H1 := Tre.hid (H0.out.allocR #[.int .i64 g.root, .int .i64 f.root] 3)
      generalize hb : wq0.heap.size = b37 at H1 ⊢
      generalize hw : wq0.alloc (.cells #[.int .i64 g.root, .int .i64 f.root] 3) = wq1 at H1 ⊢
      clear hb hw
      refine hK.out _ _ ?_ (fun hH36 => ?_)
      · exact ⟨(H1.out.two 1 rfl).1, (H1.out.two 1 rfl).2, (H1.out.two 4 rfl).2⟩
      clear hK K hH0
      try simp only [Act.put, List.setIfInBounds_toArray, List.set_cons_zero, List.set_cons_succ]
      refine lPure (i := 10) (some 38) (v := ?_) (by rfl) (by kernel_rfl) (by kernel_rfl) (by kernel_rfl) (by kernel_rfl) (fun _ _ _ h => h) (by rfl) ?_ (keep_of hH36) ?_
      rotate_left
      · intro w; simp only [List.getElem?_toArray, List.getElem?_cons_succ, List.getElem?_cons_zero, Option.map_some, Option.some.injEq]; (first | (go_simp; done) | (go_simp; with_reducible rfl))
      try simp only [Act.put, List.setIfInBounds_toArray, List.set_cons_zero, List.set_cons_succ]
      refine lThree 1 11 14 (by kernel_rfl) (LStep.op (fun K hK => ?_)) (LStep.op (fun K hK => ?_)) (LStep.op (fun K hK => ?_))
      · -- 29
        go_simp
        have H2 := Tre.hid (H1.out.allocRow #[] 38 5 0 (by unfold maxLen; omega) rfl)
        generalize hb : wq1.heap.size = b29 at H2 ⊢
        generalize hw : wq1.alloc (.cells #[] 38) = wq2 at H2 ⊢
        clear hb hw
        refine hK.out _ _ ?_ (fun hH37 => ?_)
        · exact ⟨(H2.out.two 2 rfl).1, (H2.out.two 2 rfl).2, (H2.out.two 5 rfl).2⟩
        clear hK K hH36
        try simp only [Act.put, List.setIfInBounds_toArray, List.set_cons_zero, List.set_cons_succ]
        refine lThree 4 11 14 (by kernel_rfl) (LStep.op (fun K hK => ?_)) (LStep.op (fun K hK => ?_)) (LStep.op (fun K hK => ?_))
        · -- 32
          simp only [List.getElem?_toArray, List.getElem?_cons_succ, List.getElem?_cons_zero]
          rw [if_pos (by rfl)]
          refine wp_append_row _ _ _ 22 (by rfl) 38 ii _ 5 80 Try.underlying22 J1.out J2.out J3.out J4.out rfl (by omega) (.slice (some ⟨b29, 0, none⟩) 0 0) 0 ([]) (by rfl) (H2.out.row 0 rfl) aF ds.length cF (ds.flatMap NodeV.cells) (by rfl) (nrow5 (H2.out.row 3 rfl)) HONE.out (by unfold maxLen; omega) (by omega) ?_
          intro v' wq3 hown4 hgrow4 hat4
          simp only [Nat.zero_add, List.nil_append] at hown4
          have M4 := H2.out.grow 0 rfl hgrow4 hown4 hat4
          obtain ⟨a32, c32, rfl, _⟩ := M4.val 0 rfl
          have H3 := Tre.hid M4
          clear M4 hown4 hgrow4 hat4
          (try dsimp only)
          refine hK.out _ _ ?_ (fun hH38 => ?_)
          · exact ⟨(H3.out.two 2 rfl).1, (H3.out.two 2 rfl).2, (H3.out.two 5 rfl).2⟩
          clear hK K hH37
          try simp only [Act.put, List.setIfInBounds_toArray, List.set_cons_zero, List.set_cons_succ]
          refine lTwo 11 14 (by kernel_rfl) (LStep.op (fun K hK => ?_)) (LStep.op (fun K hK => ?_))
          · -- 39
            go_simp
            have H4 := Tre.hid (H3.out.allocRow #[.int .i64 2, .string { data := #[42] }, .slice (some ⟨b37, 0, none⟩) 2 2, .slice none 0 0, .bool false] 38 5 1 (by unfold maxLen; omega) rfl)
            generalize hb : wq3.heap.size = b39 at H4 ⊢
            generalize hw : wq3.alloc (.cells #[.int .i64 2, .string { data := #[42] }, .slice (some ⟨b37, 0, none⟩) 2 2, .slice none 0 0, .bool false] 38) = wq4 at H4 ⊢
            clear hb hw
            refine hK.out _ _ ?_ (fun hH39 => ?_)
            · exact ⟨(H4.out.two 3 rfl).1, (H4.out.two 3 rfl).2, (H4.out.two 6 rfl).2⟩
            clear hK K hH38
            try simp only [Act.put, List.setIfInBounds_toArray, List.set_cons_zero, List.set_cons_succ]
            refine lTwo 12 14 (by kernel_rfl) (LFall.op (by kernel_rfl) (fun K hK => ?_)) (LStep.op (fun K hK => ?_))
            · -- 40
              simp only [List.getElem?_toArray, List.getElem?_cons_succ, List.getElem?_cons_zero]
              rw [if_pos (by rfl)]
              refine wp_append_row _ _ _ 22 (by rfl) 38 ii _ 5 80 Try.underlying22 J1.out J2.out J3.out J4.out rfl (by omega) (.slice a32 ds.length c32) ds.length (ds.flatMap NodeV.cells) (by rfl) (H4.out.row 1 rfl) (some ⟨b39, 0, none⟩) 1 1 [.int .i64 2, .string { data := #[42] }, .slice (some ⟨b37, 0, none⟩) 2 2, .slice none 0 0, .bool false] (by rfl) ⟨rfl, fun j u hj => ⟨_, 0, rfl, by rw [Nat.zero_add]; exact H4.out.cellAt 0 rfl j hj⟩⟩ (by simp [Value.oneCell']) (by unfold maxLen; omega) (by omega) ?_
              intro v' wq5 hown4 hgrow4 hat4
              have M4 := H4.out.grow 1 rfl hgrow4 hown4 hat4
              obtain ⟨a40, c40, rfl, _⟩ := M4.val 1 rfl
              have H5 := Tre.hid M4
              clear M4 hown4 hgrow4 hat4
              (try dsimp only)
              refine hK.out _ _ ?_
              clear hK K hH39
              try simp only [Act.put, List.setIfInBounds_toArray, List.set_cons_zero, List.set_cons_succ]
              refine lPure (i := 13) (some 41) (v := ?_) (by rfl) (by kernel_rfl) (by kernel_rfl) (by kernel_rfl) (by kernel_rfl) (fun _ _ _ h => h) (by rfl) ?_ (keep_fell (by kernel_rfl)) ?_
              rotate_left
              · intro w; simp only [List.getElem?_toArray, List.getElem?_cons_succ, List.getElem?_cons_zero, Option.map_some, Option.some.injEq]; (first | (go_simp; done) | (go_simp; with_reducible rfl))
              try simp only [Act.put, List.setIfInBounds_toArray, List.set_cons_zero, List.set_cons_succ]
              refine lOne 14 (by kernel_rfl) (LFall.op (by kernel_rfl) (fun K hK => ?_))
              go_simp
              have H6 := Tre.hid (H5.out.allocR #[.slice none 0 0, .int .i64 0] 24)
              generalize hb : wq5.heap.size = b8 at H6 ⊢
              generalize hw : wq5.alloc (.cells #[.slice none 0 0, .int .i64 0] 24) = wq6 at H6 ⊢
              clear hb hw
              refine hK.out _ _ ?_
              clear hK K
              try simp only [Act.put, List.setIfInBounds_toArray, List.set_cons_zero, List.set_cons_succ]
              refine lOne 15 (by kernel_rfl) (LFall.op (by kernel_rfl) (fun K hK => ?_))
              have z0 := H6.out.free 0 rfl 0
              have z1 := H6.out.free 0 rfl 1
              obtain ⟨y0, y1⟩ := H6.out.two 0 rfl
              have H7 := Tre.hid ((H6.out.setCell 0 rfl 0 (.slice a40 (ds.length + 1) c40)).setCell 0 rfl 1 (.int .i64 (ds.length : Int)))
              go_simp
              refine hK.out _ _ ?_
              clear hK K
              try simp only [Act.put, List.setIfInBounds_toArray, List.set_cons_zero, List.set_cons_succ]
              refine lDone (by kernel_rfl) ?_
              go_wp2_with fail
              go_meet
              exact ⟨b8, a40, c40, b37, rfl, (((((((((H7.out.front 1 rfl).front 7 rfl).front 7 rfl).front 7 rfl).front 7 rfl).front 7 rfl).front 7 rfl).front 7 rfl)).sub (by simp)⟩
            · -- 8
              go_simp
              have H5 := Tre.hid (H4.out.allocR #[.slice none 0 0, .int .i64 0] 24)
              generalize hb : wq4.heap.size = b8 at H5 ⊢
              generalize hw : wq4.alloc (.cells #[.slice none 0 0, .int .i64 0] 24) = wq5 at H5 ⊢
              clear hb hw
              refine hK.out _ _ ?_ (fun hH40 => ?_)
              · exact ⟨(H5.out.two 4 rfl).1, (H5.out.two 4 rfl).2, (H5.out.two 7 rfl).2⟩
              clear hK K hH39
              try simp only [Act.put, List.setIfInBounds_toArray, List.set_cons_zero, List.set_cons_succ]
              refine lOne 12 (by kernel_rfl) (LFall.op (by kernel_rfl) (fun K hK => ?_))
              simp only [List.getElem?_toArray, List.getElem?_cons_succ, List.getElem?_cons_zero]
              rw [if_pos (by rfl)]
              refine wp_append_row _ _ _ 22 (by rfl) 38 ii _ 5 80 Try.underlying22 J1.out J2.out J3.out J4.out rfl (by omega) (.slice a32 ds.length c32) ds.length (ds.flatMap NodeV.cells) (by rfl) (H5.out.row 2 rfl) (some ⟨b39, 0, none⟩) 1 1 [.int .i64 2, .string { data := #[42] }, .slice (some ⟨b37, 0, none⟩) 2 2, .slice none 0 0, .bool false] (by rfl) ⟨rfl, fun j u hj => ⟨_, 0, rfl, by rw [Nat.zero_add]; exact H5.out.cellAt 1 rfl j hj⟩⟩ (by simp [Value.oneCell']) (by unfold maxLen; omega) (by omega) ?_
              intro v' wq6 hown4 hgrow4 hat4
              have M4 := H5.out.grow 2 rfl hgrow4 hown4 hat4
              obtain ⟨a40, c40, rfl, _⟩ := M4.val 2 rfl
              have H6 := Tre.hid M4
              clear M4 hown4 hgrow4 hat4
              (try dsimp only)
              refine hK.out _ _ ?_
              clear hK K hH40
              try simp only [Act.put, List.setIfInBounds_toArray, List.set_cons_zero, List.set_cons_succ]
              refine lPure (i := 13) (some 41) (v := ?_) (by rfl) (by kernel_rfl) (by kernel_rfl) (by kernel_rfl) (by kernel_rfl) (fun _ _ _ h => h) (by rfl) ?_ (keep_fell (by kernel_rfl)) ?_
              rotate_left
              · intro w; simp only [List.getElem?_toArray, List.getElem?_cons_succ, List.getElem?_cons_zero, Option.map_some, Option.some.injEq]; (first | (go_simp; done) | (go_simp; with_reducible rfl))
              try simp only [Act.put, List.setIfInBounds_toArray, List.set_cons_zero, List.set_cons_succ]
              refine lOne 15 (by kernel_rfl) (LFall.op (by kernel_rfl) (fun K hK => ?_))
              have z0 := H6.out.free 0 rfl 0
              have z1 := H6.out.free 0 rfl 1
              obtain ⟨y0, y1⟩ := H6.out.two 0 rfl
              have H7 := Tre.hid ((H6.out.setCell 0 rfl 0 (.slice a40 (ds.length + 1) c40)).setCell 0 rfl 1 (.int .i64 (ds.length : Int)))
              go_simp
              refine hK.out _ _ ?_
              clear hK K
              try simp only [Act.put, List.setIfInBounds_toArray, List.set_cons_zero, List.set_cons_succ]
              refine lDone (by kernel_rfl) ?_
              go_wp2_with fail
              go_meet
              exact ⟨b8, a40, c40, b37, rfl, (((((((((H7.out.front 1 rfl).front 7 rfl).front 7 rfl).front 7 rfl).front 7 rfl).front 7 rfl).front 7 rfl).front 7 rfl)).sub (by simp)⟩
          · -- 8
            go_simp
            have H4 := Tre.hid (H3.out.allocR #[.slice none 0 0, .int .i64 0] 24)
            generalize hb : wq3.heap.size = b8 at H4 ⊢
            generalize hw : wq3.alloc (.cells #[.slice none 0 0, .int .i64 0] 24) = wq4 at H4 ⊢
            clear hb hw
            refine hK.out _ _ ?_ (fun hH41 => ?_)
            · exact ⟨(H4.out.two 3 rfl).1, (H4.out.two 3 rfl).2, (H4.out.two 6 rfl).2⟩
            clear hK K hH38
            try simp only [Act.put, List.setIfInBounds_toArray, List.set_cons_zero, List.set_cons_succ]
            refine lOne 11 (by kernel_rfl) (LStep.op (fun K hK => ?_))
            go_simp
            have H5 := Tre.hid (H4.out.allocRow #[.int .i64 2, .string { data := #[42] }, .slice (some ⟨b37, 0, none⟩) 2 2, .slice none 0 0, .bool false] 38 5 1 (by unfold maxLen; omega) rfl)
            generalize hb : wq4.heap.size = b39 at H5 ⊢
            generalize hw : wq4.alloc (.cells #[.int .i64 2, .string { data := #[42] }, .slice (some ⟨b37, 0, none⟩) 2 2, .slice none 0 0, .bool false] 38) = wq5 at H5 ⊢
            clear hb hw
            refine hK.out _ _ ?_ (fun hH42 => ?_)
            · exact ⟨(H5.out.two 4 rfl).1, (H5.out.two 4 rfl).2, (H5.out.two 7 rfl).2⟩
            clear hK K hH41
            try simp only [Act.put, List.setIfInBounds_toArray, List.set_cons_zero, List.set_cons_succ]
            refine lOne 12 (by kernel_rfl) (LFall.op (by kernel_rfl) (fun K hK => ?_))
            simp only [List.getElem?_toArray, List.getElem?_cons_succ, List.getElem?_cons_zero]
            rw [if_pos (by rfl)]
            refine wp_append_row _ _ _ 22 (by rfl) 38 ii _ 5 80 Try.underlying22 J1.out J2.out J3.out J4.out rfl (by omega) (.slice a32 ds.length c32) ds.length (ds.flatMap NodeV.cells) (by rfl) (H5.out.row 2 rfl) (some ⟨b39, 0, none⟩) 1 1 [.int .i64 2, .string { data := #[42] }, .slice (some ⟨b37, 0, none⟩) 2 2, .slice none 0 0, .bool false] (by rfl) ⟨rfl, fun j u hj => ⟨_, 0, rfl, by rw [Nat.zero_add]; exact H5.out.cellAt 0 rfl j hj⟩⟩ (by simp [Value.oneCell']) (by unfold maxLen; omega) (by omega) ?_
            intro v' wq6 hown4 hgrow4 hat4
            have M4 := H5.out.grow 2 rfl hgrow4 hown4 hat4
            obtain ⟨a40, c40, rfl, _⟩ := M4.val 2 rfl
            have H6 := Tre.hid M4
            clear M4 hown4 hgrow4 hat4
            (try dsimp only)
            refine hK.out _ _ ?_
            clear hK K hH42
            try simp only [Act.put, List.setIfInBounds_toArray, List.set_cons_zero, List.set_cons_succ]
            refine lPure (i := 13) (some 41) (v := ?_) (by rfl) (by kernel_rfl) (by kernel_rfl) (by kernel_rfl) (by kernel_rfl) (fun _ _ _ h => h) (by rfl) ?_ (keep_fell (by kernel_rfl)) ?_
            rotate_left
            · intro w; simp only [List.getElem?_toArray, List.getElem?_cons_succ, List.getElem?_cons_zero, Option.map_some, Option.some.injEq]; (first | (go_simp; done) | (go_simp; with_reducible rfl))
            try simp only [Act.put, List.setIfInBounds_toArray, List.set_cons_zero, List.set_cons_succ]
            refine lOne 15 (by kernel_rfl) (LFall.op (by kernel_rfl) (fun K hK => ?_))
            have z0 := H6.out.free 1 rfl 0
            have z1 := H6.out.free 1 rfl 1
            obtain ⟨y0, y1⟩ := H6.out.two 1 rfl
            have H7 := Tre.hid ((H6.out.setCell 1 rfl 0 (.slice a40 (ds.length + 1) c40)).setCell 1 rfl 1 (.int .i64 (ds.length : Int)))
            go_simp
            refine hK.out _ _ ?_
            clear hK K
            try simp only [Act.put, List.setIfInBounds_toArray, List.set_cons_zero, List.set_cons_succ]
            refine lDone (by kernel_rfl) ?_
            go_wp2_with fail
            go_meet
            exact ⟨b8, a40, c40, b37, rfl, (((((((((H7.out.front 0 rfl).front 7 rfl).front 7 rfl).front 7 rfl).front 7 rfl).front 7 rfl).front 7 rfl).front 7 rfl)).sub (by simp)⟩
        · -- 39
          go_simp
          have H3 := Tre.hid (H2.out.allocRow #[.int .i64 2, .string { data := #[42] }, .slice (some ⟨b37, 0, none⟩) 2 2, .slice none 0 0, .bool false] 38 5 1 (by unfold maxLen; omega) rfl)
          generalize hb : wq2.heap.size = b39 at H3 ⊢
          generalize hw : wq2.alloc (.cells #[.int .i64 2, .string { data := #[42] }, .slice (some ⟨b37, 0, none⟩) 2 2, .slice none 0 0, .bool false] 38) = wq3 at H3 ⊢
          clear hb hw
          refine hK.out _ _ ?_ (fun hH43 => ?_)
          · exact ⟨(H3.out.two 3 rfl).1, (H3.out.two 3 rfl).2, (H3.out.two 6 rfl).2⟩
          clear hK K hH37
          try simp only [Act.put, List.setIfInBounds_toArray, List.set_cons_zero, List.set_cons_succ]
          refine lTwo 4 14 (by kernel_rfl) (LStep.op (fun K hK => ?_)) (LStep.op (fun K hK => ?_))
          · -- 32
            simp only [List.getElem?_toArray, List.getElem?_cons_succ, List.getElem?_cons_zero]
            rw [if_pos (by rfl)]
            refine wp_append_row _ _ _ 22 (by rfl) 38 ii _ 5 80 Try.underlying22 J1.out J2.out J3.out J4.out rfl (by omega) (.slice (some ⟨b29, 0, none⟩) 0 0) 0 ([]) (by rfl) (H3.out.row 1 rfl) aF ds.length cF (ds.flatMap NodeV.cells) (by rfl) (nrow5 (H3.out.row 4 rfl)) HONE.out (by unfold maxLen; omega) (by omega) ?_
            intro v' wq4 hown4 hgrow4 hat4
            simp only [Nat.zero_add, List.nil_append] at hown4
            have M4 := H3.out.grow 1 rfl hgrow4 hown4 hat4
            obtain ⟨a32, c32, rfl, _⟩ := M4.val 1 rfl
            have H4 := Tre.hid M4
            clear M4 hown4 hgrow4 hat4
            (try dsimp only)
            refine hK.out _ _ ?_ (fun hH44 => ?_)
            · exact ⟨(H4.out.two 3 rfl).1, (H4.out.two 3 rfl).2, (H4.out.two 6 rfl).2⟩
            clear hK K hH43
            try simp only [Act.put, List.setIfInBounds_toArray, List.set_cons_zero, List.set_cons_succ]
            refine lTwo 12 14 (by kernel_rfl) (LFall.op (by kernel_rfl) (fun K hK => ?_)) (LStep.op (fun K hK => ?_))
            · -- 40
              simp only [List.getElem?_toArray, List.getElem?_cons_succ, List.getElem?_cons_zero]
              rw [if_pos (by rfl)]
              refine wp_append_row _ _ _ 22 (by rfl) 38 ii _ 5 80 Try.underlying22 J1.out J2.out J3.out J4.out rfl (by omega) (.slice a32 ds.length c32) ds.length (ds.flatMap NodeV.cells) (by rfl) (H4.out.row 1 rfl) (some ⟨b39, 0, none⟩) 1 1 [.int .i64 2, .string { data := #[42] }, .slice (some ⟨b37, 0, none⟩) 2 2, .slice none 0 0, .bool false] (by rfl) ⟨rfl, fun j u hj => ⟨_, 0, rfl, by rw [Nat.zero_add]; exact H4.out.cellAt 0 rfl j hj⟩⟩ (by simp [Value.oneCell']) (by unfold maxLen; omega) (by omega) ?_
              intro v' wq5 hown4 hgrow4 hat4
              have M4 := H4.out.grow 1 rfl hgrow4 hown4 hat4
              obtain ⟨a40, c40, rfl, _⟩ := M4.val 1 rfl
              have H5 := Tre.hid M4
              clear M4 hown4 hgrow4 hat4
              (try dsimp only)
              refine hK.out _ _ ?_
              clear hK K hH44
              try simp only [Act.put, List.setIfInBounds_toArray, List.set_cons_zero, List.set_cons_succ]
              refine lPure (i := 13) (some 41) (v := ?_) (by rfl) (by kernel_rfl) (by kernel_rfl) (by kernel_rfl) (by kernel_rfl) (fun _ _ _ h => h) (by rfl) ?_ (keep_fell (by kernel_rfl)) ?_
              rotate_left
              · intro w; simp only [List.getElem?_toArray, List.getElem?_cons_succ, List.getElem?_cons_zero, Option.map_some, Option.some.injEq]; (first | (go_simp; done) | (go_simp; with_reducible rfl))
              try simp only [Act.put, List.setIfInBounds_toArray, List.set_cons_zero, List.set_cons_succ]
              refine lOne 14 (by kernel_rfl) (LFall.op (by kernel_rfl) (fun K hK => ?_))
              go_simp
              have H6 := Tre.hid (H5.out.allocR #[.slice none 0 0, .int .i64 0] 24)
              generalize hb : wq5.heap.size = b8 at H6 ⊢
              generalize hw : wq5.alloc (.cells #[.slice none 0 0, .int .i64 0] 24) = wq6 at H6 ⊢
              clear hb hw
              refine hK.out _ _ ?_
              clear hK K
              try simp only [Act.put, List.setIfInBounds_toArray, List.set_cons_zero, List.set_cons_succ]
              refine lOne 15 (by kernel_rfl) (LFall.op (by kernel_rfl) (fun K hK => ?_))
              have z0 := H6.out.free 0 rfl 0
              have z1 := H6.out.free 0 rfl 1
              obtain ⟨y0, y1⟩ := H6.out.two 0 rfl
              have H7 := Tre.hid ((H6.out.setCell 0 rfl 0 (.slice a40 (ds.length + 1) c40)).setCell 0 rfl 1 (.int .i64 (ds.length : Int)))
              go_simp
              refine hK.out _ _ ?_
              clear hK K
              try simp only [Act.put, List.setIfInBounds_toArray, List.set_cons_zero, List.set_cons_succ]
              refine lDone (by kernel_rfl) ?_
              go_wp2_with fail
              go_meet
              exact ⟨b8, a40, c40, b37, rfl, (((((((((H7.out.front 1 rfl).front 7 rfl).front 7 rfl).front 7 rfl).front 7 rfl).front 7 rfl).front 7 rfl).front 7 rfl)).sub (by simp)⟩
            · -- 8
              go_simp
              have H5 := Tre.hid (H4.out.allocR #[.slice none 0 0, .int .i64 0] 24)
              generalize hb : wq4.heap.size = b8 at H5 ⊢
              generalize hw : wq4.alloc (.cells #[.slice none 0 0, .int .i64 0] 24) = wq5 at H5 ⊢
              clear hb hw
              refine hK.out _ _ ?_ (fun hH45 => ?_)
              · exact ⟨(H5.out.two 4 rfl).1, (H5.out.two 4 rfl).2, (H5.out.two 7 rfl).2⟩
              clear hK K hH44
              try simp only [Act.put, List.setIfInBounds_toArray, List.set_cons_zero, List.set_cons_succ]
              refine lOne 12 (by kernel_rfl) (LFall.op (by kernel_rfl) (fun K hK => ?_))
              simp only [List.getElem?_toArray, List.getElem?_cons_succ, List.getElem?_cons_zero]
              rw [if_pos (by rfl)]
              refine wp_append_row _ _ _ 22 (by rfl) 38 ii _ 5 80 Try.underlying22 J1.out J2.out J3.out J4.out rfl (by omega) (.slice a32 ds.length c32) ds.length (ds.flatMap NodeV.cells) (by rfl) (H5.out.row 2 rfl) (some ⟨b39, 0, none⟩) 1 1 [.int .i64 2, .string { data := #[42] }, .slice (some ⟨b37, 0, none⟩) 2 2, .slice none 0 0, .bool false] (by rfl) ⟨rfl, fun j u hj => ⟨_, 0, rfl, by rw [Nat.zero_add]; exact H5.out.cellAt 1 rfl j hj⟩⟩ (by simp [Value.oneCell']) (by unfold maxLen; omega) (by omega) ?_
              intro v' wq6 hown4 hgrow4 hat4
              have M4 := H5.out.grow 2 rfl hgrow4 hown4 hat4
              obtain ⟨a40, c40, rfl, _⟩ := M4.val 2 rfl
              have H6 := Tre.hid M4
              clear M4 hown4 hgrow4 hat4
              (try dsimp only)
              refine hK.out _ _ ?_
              clear hK K hH45
              try simp only [Act.put, List.setIfInBounds_toArray, List.set_cons_zero, List.set_cons_succ]
              refine lPure (i := 13) (some 41) (v := ?_) (by rfl) (by kernel_rfl) (by kernel_rfl) (by kernel_rfl) (by kernel_rfl) (fun _ _ _ h => h) (by rfl) ?_ (keep_fell (by kernel_rfl)) ?_
              rotate_left
              · intro w; simp only [List.getElem?_toArray, List.getElem?_cons_succ, List.getElem?_cons_zero, Option.map_some, Option.some.injEq]; (first | (go_simp; done) | (go_simp; with_reducible rfl))
              try simp only [Act.put, List.setIfInBounds_toArray, List.set_cons_zero, List.set_cons_succ]
              refine lOne 15 (by kernel_rfl) (LFall.op (by kernel_rfl) (fun K hK => ?_))
              have z0 := H6.out.free 0 rfl 0
              have z1 := H6.out.free 0 rfl 1
              obtain ⟨y0, y1⟩ := H6.out.two 0 rfl
              have H7 := Tre.hid ((H6.out.setCell 0 rfl 0 (.slice a40 (ds.length + 1) c40)).setCell 0 rfl 1 (.int .i64 (ds.length : Int)))
              go_simp
              refine hK.out _ _ ?_
              clear hK K
              try simp only [Act.put, List.setIfInBounds_toArray, List.set_cons_zero, List.set_cons_succ]
              refine lDone (by kernel_rfl) ?_
              go_wp2_with fail
              go_meet
              exact ⟨b8, a40, c40, b37, rfl, (((((((((H7.out.front 1 rfl).front 7 rfl).front 7 rfl).front 7 rfl).front 7 rfl).front 7 rfl).front 7 rfl).front 7 rfl)).sub (by simp)⟩
          · -- 8
            go_simp
            have H4 := Tre.hid (H3.out.allocR #[.slice none 0 0, .int .i64 0] 24)
            generalize hb : wq3.heap.size = b8 at H4 ⊢
            generalize hw : wq3.alloc (.cells #[.slice none 0 0, .int .i64 0] 24) = wq4 at H4 ⊢
            clear hb hw
            refine hK.out _ _ ?_ (fun hH46 => ?_)
            · exact ⟨(H4.out.two 4 rfl).1, (H4.out.two 4 rfl).2, (H4.out.two 7 rfl).2⟩
            clear hK K hH43
            try simp only [Act.put, List.setIfInBounds_toArray, List.set_cons_zero, List.set_cons_succ]
            refine lOne 4 (by kernel_rfl) (LStep.op (fun K hK => ?_))
            simp only [List.getElem?_toArray, List.getElem?_cons_succ, List.getElem?_cons_zero]
            rw [if_pos (by rfl)]
            refine wp_append_row _ _ _ 22 (by rfl) 38 ii _ 5 80 Try.underlying22 J1.out J2.out J3.out J4.out rfl (by omega) (.slice (some ⟨b29, 0, none⟩) 0 0) 0 ([]) (by rfl) (H4.out.row 2 rfl) aF ds.length cF (ds.flatMap NodeV.cells) (by rfl) (nrow5 (H4.out.row 5 rfl)) HONE.out (by unfold maxLen; omega) (by omega) ?_
            intro v' wq5 hown4 hgrow4 hat4
            simp only [Nat.zero_add, List.nil_append] at hown4
            have M4 := H4.out.grow 2 rfl hgrow4 hown4 hat4
            obtain ⟨a32, c32, rfl, _⟩ := M4.val 2 rfl
            have H5 := Tre.hid M4
            clear M4 hown4 hgrow4 hat4
            (try dsimp only)
            refine hK.out _ _ ?_ (fun hH47 => ?_)
            · exact ⟨(H5.out.two 4 rfl).1, (H5.out.two 4 rfl).2, (H5.out.two 7 rfl).2⟩
            clear hK K hH46
            try simp only [Act.put, List.setIfInBounds_toArray, List.set_cons_zero, List.set_cons_succ]
            refine lOne 12 (by kernel_rfl) (LFall.op (by kernel_rfl) (fun K hK => ?_))
            simp only [List.getElem?_toArray, List.getElem?_cons_succ, List.getElem?_cons_zero]
            rw [if_pos (by rfl)]
            refine wp_append_row _ _ _ 22 (by rfl) 38 ii _ 5 80 Try.underlying22 J1.out J2.out J3.out J4.out rfl (by omega) (.slice a32 ds.length c32) ds.length (ds.flatMap NodeV.cells) (by rfl) (H5.out.row 2 rfl) (some ⟨b39, 0, none⟩) 1 1 [.int .i64 2, .string { data := #[42] }, .slice (some ⟨b37, 0, none⟩) 2 2, .slice none 0 0, .bool false] (by rfl) ⟨rfl, fun j u hj => ⟨_, 0, rfl, by rw [Nat.zero_add]; exact H5.out.cellAt 1 rfl j hj⟩⟩ (by simp [Value.oneCell']) (by unfold maxLen; omega) (by omega) ?_
            intro v' wq6 hown4 hgrow4 hat4
            have M4 := H5.out.grow 2 rfl hgrow4 hown4 hat4
            obtain ⟨a40, c40, rfl, _⟩ := M4.val 2 rfl
            have H6 := Tre.hid M4
            clear M4 hown4 hgrow4 hat4
            (try dsimp only)
            refine hK.out _ _ ?_
            clear hK K hH47
            try simp only [Act.put, List.setIfInBounds_toArray, List.set_cons_zero, List.set_cons_succ]
            refine lPure (i := 13) (some 41) (v := ?_) (by rfl) (by kernel_rfl) (by kernel_rfl) (by kernel_rfl) (by kernel_rfl) (fun _ _ _ h => h) (by rfl) ?_ (keep_fell (by kernel_rfl)) ?_
            rotate_left
            · intro w; simp only [List.getElem?_toArray, List.getElem?_cons_succ, List.getElem?_cons_zero, Option.map_some, Option.some.injEq]; (first | (go_simp; done) | (go_simp; with_reducible rfl))
            try simp only [Act.put, List.setIfInBounds_toArray, List.set_cons_zero, List.set_cons_succ]
            refine lOne 15 (by kernel_rfl) (LFall.op (by kernel_rfl) (fun K hK => ?_))
            have z0 := H6.out.free 0 rfl 0
            have z1 := H6.out.free 0 rfl 1
            obtain ⟨y0, y1⟩ := H6.out.two 0 rfl
            have H7 := Tre.hid ((H6.out.setCell 0 rfl 0 (.slice a40 (ds.length + 1) c40)).setCell 0 rfl 1 (.int .i64 (ds.length : Int)))
            go_simp
            refine hK.out _ _ ?_
            clear hK K
            try simp only [Act.put, List.setIfInBounds_toArray, List.set_cons_zero, List.set_cons_succ]
            refine lDone (by kernel_rfl) ?_
            go_wp2_with fail
            go_meet
            exact ⟨b8, a40, c40, b37, rfl, (((((((((H7.out.front 1 rfl).front 7 rfl).front 7 rfl).front 7 rfl).front 7 rfl).front 7 rfl).front 7 rfl).front 7 rfl)).sub (by simp)⟩
        · -- 8
          go_simp
          have H3 := Tre.hid (H2.out.allocR #[.slice none 0 0, .int .i64 0] 24)
          generalize hb : wq2.heap.size = b8 at H3 ⊢
          generalize hw : wq2.alloc (.cells #[.slice none 0 0, .int .i64 0] 24) = wq3 at H3 ⊢
          clear hb hw
          refine hK.out _ _ ?_ (fun hH48 => ?_)
          · exact ⟨(H3.out.two 3 rfl).1, (H3.out.two 3 rfl).2, (H3.out.two 6 rfl).2⟩
          clear hK K hH37
          try simp only [Act.put, List.setIfInBounds_toArray, List.set_cons_zero, List.set_cons_succ]
          refine lTwo 4 11 (by kernel_rfl) (LStep.op (fun K hK => ?_)) (LStep.op (fun K hK => ?_))
          · -- 32
            simp only [List.getElem?_toArray, List.getElem?_cons_succ, List.getElem?_cons_zero]
            rw [if_pos (by rfl)]
            refine wp_append_row _ _ _ 22 (by rfl) 38 ii _ 5 80 Try.underlying22 J1.out J2.out J3.out J4.out rfl (by omega) (.slice (some ⟨b29, 0, none⟩) 0 0) 0 ([]) (by rfl) (H3.out.row 1 rfl) aF ds.length cF (ds.flatMap NodeV.cells) (by rfl) (nrow5 (H3.out.row 4 rfl)) HONE.out (by unfold maxLen; omega) (by omega) ?_
            intro v' wq4 hown4 hgrow4 hat4
            simp only [Nat.zero_add, List.nil_append] at hown4
            have M4 := H3.out.grow 1 rfl hgrow4 hown4 hat4
            obtain ⟨a32, c32, rfl, _⟩ := M4.val 1 rfl
            have H4 := Tre.hid M4
            clear M4 hown4 hgrow4 hat4
            (try dsimp only)
            refine hK.out _ _ ?_ (fun hH49 => ?_)
            · exact ⟨(H4.out.two 3 rfl).1, (H4.out.two 3 rfl).2, (H4.out.two 6 rfl).2⟩
            clear hK K hH48
            try simp only [Act.put, List.setIfInBounds_toArray, List.set_cons_zero, List.set_cons_succ]
            refine lOne 11 (by kernel_rfl) (LStep.op (fun K hK => ?_))
            go_simp
            have H5 := Tre.hid (H4.out.allocRow #[.int .i64 2, .string { data := #[42] }, .slice (some ⟨b37, 0, none⟩) 2 2, .slice none 0 0, .bool false] 38 5 1 (by unfold maxLen; omega) rfl)
            generalize hb : wq4.heap.size = b39 at H5 ⊢
            generalize hw : wq4.alloc (.cells #[.int .i64 2, .string { data := #[42] }, .slice (some ⟨b37, 0, none⟩) 2 2, .slice none 0 0, .bool false] 38) = wq5 at H5 ⊢
            clear hb hw
            refine hK.out _ _ ?_ (fun hH50 => ?_)
            · exact ⟨(H5.out.two 4 rfl).1, (H5.out.two 4 rfl).2, (H5.out.two 7 rfl).2⟩
            clear hK K hH49
            try simp only [Act.put, List.setIfInBounds_toArray, List.set_cons_zero, List.set_cons_succ]
            refine lOne 12 (by kernel_rfl) (LFall.op (by kernel_rfl) (fun K hK => ?_))
            simp only [List.getElem?_toArray, List.getElem?_cons_succ, List.getElem?_cons_zero]
            rw [if_pos (by rfl)]
            refine wp_append_row _ _ _ 22 (by rfl) 38 ii _ 5 80 Try.underlying22 J1.out J2.out J3.out J4.out rfl (by omega) (.slice a32 ds.length c32) ds.length (ds.flatMap NodeV.cells) (by rfl) (H5.out.row 2 rfl) (some ⟨b39, 0, none⟩) 1 1 [.int .i64 2, .string { data := #[42] }, .slice (some ⟨b37, 0, none⟩) 2 2, .slice none 0 0, .bool false] (by rfl) ⟨rfl, fun j u hj => ⟨_, 0, rfl, by rw [Nat.zero_add]; exact H5.out.cellAt 0 rfl j hj⟩⟩ (by simp [Value.oneCell']) (by unfold maxLen; omega) (by omega) ?_
            intro v' wq6 hown4 hgrow4 hat4
            have M4 := H5.out.grow 2 rfl hgrow4 hown4 hat4
            obtain ⟨a40, c40, rfl, _⟩ := M4.val 2 rfl
            have H6 := Tre.hid M4
            clear M4 hown4 hgrow4 hat4
            (try dsimp only)
            refine hK.out _ _ ?_
            clear hK K hH50
            try simp only [Act.put, List.setIfInBounds_toArray, List.set_cons_zero, List.set_cons_succ]
            refine lPure (i := 13) (some 41) (v := ?_) (by rfl) (by kernel_rfl) (by kernel_rfl) (by kernel_rfl) (by kernel_rfl) (fun _ _ _ h => h) (by rfl) ?_ (keep_fell (by kernel_rfl)) ?_
            rotate_left
            · intro w; simp only [List.getElem?_toArray, List.getElem?_cons_succ, List.getElem?_cons_zero, Option.map_some, Option.some.injEq]; (first | (go_simp; done) | (go_simp; with_reducible rfl))
            try simp only [Act.put, List.setIfInBounds_toArray, List.set_cons_zero, List.set_cons_succ]
            refine lOne 15 (by kernel_rfl) (LFall.op (by kernel_rfl) (fun K hK => ?_))
            have z0 := H6.out.free 1 rfl 0
            have z1 := H6.out.free 1 rfl 1
            obtain ⟨y0, y1⟩ := H6.out.two 1 rfl
            have H7 := Tre.hid ((H6.out.setCell 1 rfl 0 (.slice a40 (ds.length + 1) c40)).setCell 1 rfl 1 (.int .i64 (ds.length : Int)))
            go_simp
            refine hK.out _ _ ?_
            clear hK K
            try simp only [Act.put, List.setIfInBounds_toArray, List.set_cons_zero, List.set_cons_succ]
            refine lDone (by kernel_rfl) ?_
            go_wp2_with fail
            go_meet
            exact ⟨b8, a40, c40, b37, rfl, (((((((((H7.out.front 0 rfl).front 7 rfl).front 7 rfl).front 7 rfl).front 7 rfl).front 7 rfl).front 7 rfl).front 7 rfl)).sub (by simp)⟩
          · -- 39
            go_simp
            have H4 := Tre.hid (H3.out.allocRow #[.int .i64 2, .string { data := #[42] }, .slice (some ⟨b37, 0, none⟩) 2 2, .slice none 0 0, .bool false] 38 5 1 (by unfold maxLen; omega) rfl)
            generalize hb : wq3.heap.size = b39 at H4 ⊢
            generalize hw : wq3.alloc (.cells #[.int .i64 2, .string { data := #[42] }, .slice (some ⟨b37, 0, none⟩) 2 2, .slice none 0 0, .bool false] 38) = wq4 at H4 ⊢
            clear hb hw
            refine hK.out _ _ ?_ (fun hH51 => ?_)
            · exact ⟨(H4.out.two 4 rfl).1, (H4.out.two 4 rfl).2, (H4.out.two 7 rfl).2⟩
            clear hK K hH48
            try simp only [Act.put, List.setIfInBounds_toArray, List.set_cons_zero, List.set_cons_succ]
            refine lOne 4 (by kernel_rfl) (LStep.op (fun K hK => ?_))
            simp only [List.getElem?_toArray, List.getElem?_cons_succ, List.getElem?_cons_zero]
            rw [if_pos (by rfl)]
            refine wp_append_row _ _ _ 22 (by rfl) 38 ii _ 5 80 Try.underlying22 J1.out J2.out J3.out J4.out rfl (by omega) (.slice (some ⟨b29, 0, none⟩) 0 0) 0 ([]) (by rfl) (H4.out.row 2 rfl) aF ds.length cF (ds.flatMap NodeV.cells) (by rfl) (nrow5 (H4.out.row 5 rfl)) HONE.out (by unfold maxLen; omega) (by omega) ?_
            intro v' wq5 hown4 hgrow4 hat4
            simp only [Nat.zero_add, List.nil_append] at hown4
            have M4 := H4.out.grow 2 rfl hgrow4 hown4 hat4
            obtain ⟨a32, c32, rfl, _⟩ := M4.val 2 rfl
            have H5 := Tre.hid M4
            clear M4 hown4 hgrow4 hat4
            (try dsimp only)
            refine hK.out _ _ ?_ (fun hH52 => ?_)
            · exact ⟨(H5.out.two 4 rfl).1, (H5.out.two 4 rfl).2, (H5.out.two 7 rfl).2⟩
            clear hK K hH51
            try simp only [Act.put, List.setIfInBounds_toArray, List.set_cons_zero, List.set_cons_succ]
            refine lOne 12 (by kernel_rfl) (LFall.op (by kernel_rfl) (fun K hK => ?_))
            simp only [List.getElem?_toArray, List.getElem?_cons_succ, List.getElem?_cons_zero]
            rw [if_pos (by rfl)]
            refine wp_append_row _ _ _ 22 (by rfl) 38 ii _ 5 80 Try.underlying22 J1.out J2.out J3.out J4.out rfl (by omega) (.slice a32 ds.length c32) ds.length (ds.flatMap NodeV.cells) (by rfl) (H5.out.row 2 rfl) (some ⟨b39, 0, none⟩) 1 1 [.int .i64 2, .string { data := #[42] }, .slice (some ⟨b37, 0, none⟩) 2 2, .slice none 0 0, .bool false] (by rfl) ⟨rfl, fun j u hj => ⟨_, 0, rfl, by rw [Nat.zero_add]; exact H5.out.cellAt 0 rfl j hj⟩⟩ (by simp [Value.oneCell']) (by unfold maxLen; omega) (by omega) ?_
            intro v' wq6 hown4 hgrow4 hat4
            have M4 := H5.out.grow 2 rfl hgrow4 hown4 hat4
            obtain ⟨a40, c40, rfl, _⟩ := M4.val 2 rfl
            have H6 := Tre.hid M4
            clear M4 hown4 hgrow4 hat4
            (try dsimp only)
            refine hK.out _ _ ?_
            clear hK K hH52
            try simp only [Act.put, List.setIfInBounds_toArray, List.set_cons_zero, List.set_cons_succ]
            refine lPure (i := 13) (some 41) (v := ?_) (by rfl) (by kernel_rfl) (by kernel_rfl) (by kernel_rfl) (by kernel_rfl) (fun _ _ _ h => h) (by rfl) ?_ (keep_fell (by kernel_rfl)) ?_
            rotate_left
            · intro w; simp only [List.getElem?_toArray, List.getElem?_cons_succ, List.getElem?_cons_zero, Option.map_some, Option.some.injEq]; (first | (go_simp; done) | (go_simp; with_reducible rfl))
            try simp only [Act.put, List.setIfInBounds_toArray, List.set_cons_zero, List.set_cons_succ]
            refine lOne 15 (by kernel_rfl) (LFall.op (by kernel_rfl) (fun K hK => ?_))
            have z0 := H6.out.free 1 rfl 0
            have z1 := H6.out.free 1 rfl 1
            obtain ⟨y0, y1⟩ := H6.out.two 1 rfl
            have H7 := Tre.hid ((H6.out.setCell 1 rfl 0 (.slice a40 (ds.length + 1) c40)).setCell 1 rfl 1 (.int .i64 (ds.length : Int)))
            go_simp
            refine hK.out _ _ ?_
            clear hK K
            try simp only [Act.put, List.setIfInBounds_toArray, List.set_cons_zero, List.set_cons_succ]
            refine lDone (by kernel_rfl) ?_
            go_wp2_with fail
            go_meet
            exact ⟨b8, a40, c40, b37, rfl, (((((((((H7.out.front 0 rfl).front 7 rfl).front 7 rfl).front 7 rfl).front 7 rfl).front 7 rfl).front 7 rfl).front 7 rfl)).sub (by simp)⟩
      · -- 39
        go_simp
        have H2 := Tre.hid (H1.out.allocRow #[.int .i64 2, .string { data := #[42] }, .slice (some ⟨b37, 0, none⟩) 2 2, .slice none 0 0, .bool false] 38 5 1 (by unfold maxLen; omega) rfl)
        generalize hb : wq1.heap.size = b39 at H2 ⊢
        generalize hw : wq1.alloc (.cells #[.int .i64 2, .string { data := #[42] }, .slice (some ⟨b37, 0, none⟩) 2 2, .slice none 0 0, .bool false] 38) = wq2 at H2 ⊢
        clear hb hw
        refine hK.out _ _ ?_ (fun hH53 => ?_)
        · exact ⟨(H2.out.two 2 rfl).1, (H2.out.two 2 rfl).2, (H2.out.two 5 rfl).2⟩
        clear hK K hH36
        try simp only [Act.put, List.setIfInBounds_toArray, List.set_cons_zero, List.set_cons_succ]
        refine lTwo 1 14 (by kernel_rfl) (LStep.op (fun K hK => ?_)) (LStep.op (fun K hK => ?_))
        · -- 29
          go_simp
          have H3 := Tre.hid (H2.out.allocRow #[] 38 5 0 (by unfold maxLen; omega) rfl)
          generalize hb : wq2.heap.size = b29 at H3 ⊢
          generalize hw : wq2.alloc (.cells #[] 38) = wq3 at H3 ⊢
          clear hb hw
          refine hK.out _ _ ?_ (fun hH54 => ?_)
          · exact ⟨(H3.out.two 3 rfl).1, (H3.out.two 3 rfl).2, (H3.out.two 6 rfl).2⟩
          clear hK K hH53
          try simp only [Act.put, List.setIfInBounds_toArray, List.set_cons_zero, List.set_cons_succ]
          refine lTwo 4 14 (by kernel_rfl) (LStep.op (fun K hK => ?_)) (LStep.op (fun K hK => ?_))
          · -- 32
            simp only [List.getElem?_toArray, List.getElem?_cons_succ, List.getElem?_cons_zero]
            rw [if_pos (by rfl)]
            refine wp_append_row _ _ _ 22 (by rfl) 38 ii _ 5 80 Try.underlying22 J1.out J2.out J3.out J4.out rfl (by omega) (.slice (some ⟨b29, 0, none⟩) 0 0) 0 ([]) (by rfl) (H3.out.row 0 rfl) aF ds.length cF (ds.flatMap NodeV.cells) (by rfl) (nrow5 (H3.out.row 4 rfl)) HONE.out (by unfold maxLen; omega) (by omega) ?_
            intro v' wq4 hown4 hgrow4 hat4
            simp only [Nat.zero_add, List.nil_append] at hown4
            have M4 := H3.out.grow 0 rfl hgrow4 hown4 hat4
            obtain ⟨a32, c32, rfl, _⟩ := M4.val 0 rfl
            have H4 := Tre.hid M4
            clear M4 hown4 hgrow4 hat4
            (try dsimp only)
            refine hK.out _ _ ?_ (fun hH55 => ?_)
            · exact ⟨(H4.out.two 3 rfl).1, (H4.out.two 3 rfl).2, (H4.out.two 6 rfl).2⟩
            clear hK K hH54
            try simp only [Act.put, List.setIfInBounds_toArray, List.set_cons_zero, List.set_cons_succ]
            refine lTwo 12 14 (by kernel_rfl) (LFall.op (by kernel_rfl) (fun K hK => ?_)) (LStep.op (fun K hK => ?_))
            · -- 40
              simp only [List.getElem?_toArray, List.getElem?_cons_succ, List.getElem?_cons_zero]
              rw [if_pos (by rfl)]
              refine wp_append_row _ _ _ 22 (by rfl) 38 ii _ 5 80 Try.underlying22 J1.out J2.out J3.out J4.out rfl (by omega) (.slice a32 ds.length c32) ds.length (ds.flatMap NodeV.cells) (by rfl) (H4.out.row 0 rfl) (some ⟨b39, 0, none⟩) 1 1 [.int .i64 2, .string { data := #[42] }, .slice (some ⟨b37, 0, none⟩) 2 2, .slice none 0 0, .bool false] (by rfl) ⟨rfl, fun j u hj => ⟨_, 0, rfl, by rw [Nat.zero_add]; exact H4.out.cellAt 1 rfl j hj⟩⟩ (by simp [Value.oneCell']) (by unfold maxLen; omega) (by omega) ?_
              intro v' wq5 hown4 hgrow4 hat4
              have M4 := H4.out.grow 0 rfl hgrow4 hown4 hat4
              obtain ⟨a40, c40, rfl, _⟩ := M4.val 0 rfl
              have H5 := Tre.hid M4
              clear M4 hown4 hgrow4 hat4
              (try dsimp only)
              refine hK.out _ _ ?_
              clear hK K hH55
              try simp only [Act.put, List.setIfInBounds_toArray, List.set_cons_zero, List.set_cons_succ]
              refine lPure (i := 13) (some 41) (v := ?_) (by rfl) (by kernel_rfl) (by kernel_rfl) (by kernel_rfl) (by kernel_rfl) (fun _ _ _ h => h) (by rfl) ?_ (keep_fell (by kernel_rfl)) ?_
              rotate_left
              · intro w; simp only [List.getElem?_toArray, List.getElem?_cons_succ, List.getElem?_cons_zero, Option.map_some, Option.some.injEq]; (first | (go_simp; done) | (go_simp; with_reducible rfl))
              try simp only [Act.put, List.setIfInBounds_toArray, List.set_cons_zero, List.set_cons_succ]
              refine lOne 14 (by kernel_rfl) (LFall.op (by kernel_rfl) (fun K hK => ?_))
              go_simp
              have H6 := Tre.hid (H5.out.allocR #[.slice none 0 0, .int .i64 0] 24)
              generalize hb : wq5.heap.size = b8 at H6 ⊢
              generalize hw : wq5.alloc (.cells #[.slice none 0 0, .int .i64 0] 24) = wq6 at H6 ⊢
              clear hb hw
              refine hK.out _ _ ?_
              clear hK K
              try simp only [Act.put, List.setIfInBounds_toArray, List.set_cons_zero, List.set_cons_succ]
              refine lOne 15 (by kernel_rfl) (LFall.op (by kernel_rfl) (fun K hK => ?_))
              have z0 := H6.out.free 0 rfl 0
              have z1 := H6.out.free 0 rfl 1
              obtain ⟨y0, y1⟩ := H6.out.two 0 rfl
              have H7 := Tre.hid ((H6.out.setCell 0 rfl 0 (.slice a40 (ds.length + 1) c40)).setCell 0 rfl 1 (.int .i64 (ds.length : Int)))
              go_simp
              refine hK.out _ _ ?_
              clear hK K
              try simp only [Act.put, List.setIfInBounds_toArray, List.set_cons_zero, List.set_cons_succ]
              refine lDone (by kernel_rfl) ?_
              go_wp2_with fail
              go_meet
              exact ⟨b8, a40, c40, b37, rfl, (((((((((H7.out.front 2 rfl).front 7 rfl).front 7 rfl).front 7 rfl).front 7 rfl).front 7 rfl).front 7 rfl).front 7 rfl)).sub (by simp)⟩
            · -- 8
              go_simp
              have H5 := Tre.hid (H4.out.allocR #[.slice none 0 0, .int .i64 0] 24)
              generalize hb : wq4.heap.size = b8 at H5 ⊢
              generalize hw : wq4.alloc (.cells #[.slice none 0 0, .int .i64 0] 24) = wq5 at H5 ⊢
              clear hb hw
              refine hK.out _ _ ?_ (fun hH56 => ?_)
              · exact ⟨(H5.out.two 4 rfl).1, (H5.out.two 4 rfl).2, (H5.out.two 7 rfl).2⟩
              clear hK K hH55
              try simp only [Act.put, List.setIfInBounds_toArray, List.set_cons_zero, List.set_cons_succ]
              refine lOne 12 (by kernel_rfl) (LFall.op (by kernel_rfl) (fun K hK => ?_))
              simp only [List.getElem?_toArray, List.getElem?_cons_succ, List.getElem?_cons_zero]
              rw [if_pos (by rfl)]
              refine wp_append_row _ _ _ 22 (by rfl) 38 ii _ 5 80 Try.underlying22 J1.out J2.out J3.out J4.out rfl (by omega) (.slice a32 ds.length c32) ds.length (ds.flatMap NodeV.cells) (by rfl) (H5.out.row 1 rfl) (some ⟨b39, 0, none⟩) 1 1 [.int .i64 2, .string { data := #[42] }, .slice (some ⟨b37, 0, none⟩) 2 2, .slice none 0 0, .bool false] (by rfl) ⟨rfl, fun j u hj => ⟨_, 0, rfl, by rw [Nat.zero_add]; exact H5.out.cellAt 2 rfl j hj⟩⟩ (by simp [Value.oneCell']) (by unfold maxLen; omega) (by omega) ?_
              intro v' wq6 hown4 hgrow4 hat4
              have M4 := H5.out.grow 1 rfl hgrow4 hown4 hat4
              obtain ⟨a40, c40, rfl, _⟩ := M4.val 1 rfl
              have H6 := Tre.hid M4
              clear M4 hown4 hgrow4 hat4
              (try dsimp only)
              refine hK.out _ _ ?_
              clear hK K hH56
              try simp only [Act.put, List.setIfInBounds_toArray, List.set_cons_zero, List.set_cons_succ]
              refine lPure (i := 13) (some 41) (v := ?_) (by rfl) (by kernel_rfl) (by kernel_rfl) (by kernel_rfl) (by kernel_rfl) (fun _ _ _ h => h) (by rfl) ?_ (keep_fell (by kernel_rfl)) ?_
              rotate_left
              · intro w; simp only [List.getElem?_toArray, List.getElem?_cons_succ, List.getElem?_cons_zero, Option.map_some, Option.some.injEq]; (first | (go_simp; done) | (go_simp; with_reducible rfl))
              try simp only [Act.put, List.setIfInBounds_toArray, List.set_cons_zero, List.set_cons_succ]
              refine lOne 15 (by kernel_rfl) (LFall.op (by kernel_rfl) (fun K hK => ?_))
              have z0 := H6.out.free 0 rfl 0
              have z1 := H6.out.free 0 rfl 1
              obtain ⟨y0, y1⟩ := H6.out.two 0 rfl
              have H7 := Tre.hid ((H6.out.setCell 0 rfl 0 (.slice a40 (ds.length + 1) c40)).setCell 0 rfl 1 (.int .i64 (ds.length : Int)))
              go_simp
              refine hK.out _ _ ?_
              clear hK K
              try simp only [Act.put, List.setIfInBounds_toArray, List.set_cons_zero, List.set_cons_succ]
              refine lDone (by kernel_rfl) ?_
              go_wp2_with fail
              go_meet
              exact ⟨b8, a40, c40, b37, rfl, (((((((((H7.out.front 2 rfl).front 7 rfl).front 7 rfl).front 7 rfl).front 7 rfl).front 7 rfl).front 7 rfl).front 7 rfl)).sub (by simp)⟩
          · -- 8
            go_simp
            have H4 := Tre.hid (H3.out.allocR #[.slice none 0 0, .int .i64 0] 24)
            generalize hb : wq3.heap.size = b8 at H4 ⊢
            generalize hw : wq3.alloc (.cells #[.slice none 0 0, .int .i64 0] 24) = wq4 at H4 ⊢
            clear hb hw
            refine hK.out _ _ ?_ (fun hH57 => ?_)
            · exact ⟨(H4.out.two 4 rfl).1, (H4.out.two 4 rfl).2, (H4.out.two 7 rfl).2⟩
            clear hK K hH54
            try simp only [Act.put, List.setIfInBounds_toArray, List.set_cons_zero, List.set_cons_succ]
            refine lOne 4 (by kernel_rfl) (LStep.op (fun K hK => ?_))
            simp only [List.getElem?_toArray, List.getElem?_cons_succ, List.getElem?_cons_zero]
            rw [if_pos (by rfl)]
            refine wp_append_row _ _ _ 22 (by rfl) 38 ii _ 5 80 Try.underlying22 J1.out J2.out J3.out J4.out rfl (by omega) (.slice (some ⟨b29, 0, none⟩) 0 0) 0 ([]) (by rfl) (H4.out.row 1 rfl) aF ds.length cF (ds.flatMap NodeV.cells) (by rfl) (nrow5 (H4.out.row 5 rfl)) HONE.out (by unfold maxLen; omega) (by omega) ?_
            intro v' wq5 hown4 hgrow4 hat4
            simp only [Nat.zero_add, List.nil_append] at hown4
            have M4 := H4.out.grow 1 rfl hgrow4 hown4 hat4
            obtain ⟨a32, c32, rfl, _⟩ := M4.val 1 rfl
            have H5 := Tre.hid M4
            clear M4 hown4 hgrow4 hat4
            (try dsimp only)
            refine hK.out _ _ ?_ (fun hH58 => ?_)
            · exact ⟨(H5.out.two 4 rfl).1, (H5.out.two 4 rfl).2, (H5.out.two 7 rfl).2⟩
            clear hK K hH57
            try simp only [Act.put, List.setIfInBounds_toArray, List.set_cons_zero, List.set_cons_succ]
            refine lOne 12 (by kernel_rfl) (LFall.op (by kernel_rfl) (fun K hK => ?_))
            simp only [List.getElem?_toArray, List.getElem?_cons_succ, List.getElem?_cons_zero]
            rw [if_pos (by rfl)]
            refine wp_append_row _ _ _ 22 (by rfl) 38 ii _ 5 80 Try.underlying22 J1.out J2.out J3.out J4.out rfl (by omega) (.slice a32 ds.length c32) ds.length (ds.flatMap NodeV.cells) (by rfl) (H5.out.row 1 rfl) (some ⟨b39, 0, none⟩) 1 1 [.int .i64 2, .string { data := #[42] }, .slice (some ⟨b37, 0, none⟩) 2 2, .slice none 0 0, .bool false] (by rfl) ⟨rfl, fun j u hj => ⟨_, 0, rfl, by rw [Nat.zero_add]; exact H5.out.cellAt 2 rfl j hj⟩⟩ (by simp [Value.oneCell']) (by unfold maxLen; omega) (by omega) ?_
            intro v' wq6 hown4 hgrow4 hat4
            have M4 := H5.out.grow 1 rfl hgrow4 hown4 hat4
            obtain ⟨a40, c40, rfl, _⟩ := M4.val 1 rfl
            have H6 := Tre.hid M4
            clear M4 hown4 hgrow4 hat4
            (try dsimp only)
            refine hK.out _ _ ?_
            clear hK K hH58
            try simp only [Act.put, List.setIfInBounds_toArray, List.set_cons_zero, List.set_cons_succ]
            refine lPure (i := 13) (some 41) (v := ?_) (by rfl) (by kernel_rfl) (by kernel_rfl) (by kernel_rfl) (by kernel_rfl) (fun _ _ _ h => h) (by rfl) ?_ (keep_fell (by kernel_rfl)) ?_
            rotate_left
            · intro w; simp only [List.getElem?_toArray, List.getElem?_cons_succ, List.getElem?_cons_zero, Option.map_some, Option.some.injEq]; (first | (go_simp; done) | (go_simp; with_reducible rfl))
            try simp only [Act.put, List.setIfInBounds_toArray, List.set_cons_zero, List.set_cons_succ]
            refine lOne 15 (by kernel_rfl) (LFall.op (by kernel_rfl) (fun K hK => ?_))
            have z0 := H6.out.free 0 rfl 0
            have z1 := H6.out.free 0 rfl 1
            obtain ⟨y0, y1⟩ := H6.out.two 0 rfl
            have H7 := Tre.hid ((H6.out.setCell 0 rfl 0 (.slice a40 (ds.length + 1) c40)).setCell 0 rfl 1 (.int .i64 (ds.length : Int)))
            go_simp
            refine hK.out _ _ ?_
            clear hK K
            try simp only [Act.put, List.setIfInBounds_toArray, List.set_cons_zero, List.set_cons_succ]
            refine lDone (by kernel_rfl) ?_
            go_wp2_with fail
            go_meet
            exact ⟨b8, a40, c40, b37, rfl, (((((((((H7.out.front 2 rfl).front 7 rfl).front 7 rfl).front 7 rfl).front 7 rfl).front 7 rfl).front 7 rfl).front 7 rfl)).sub (by simp)⟩
        · -- 8
          go_simp
          have H3 := Tre.hid (H2.out.allocR #[.slice none 0 0, .int .i64 0] 24)
          generalize hb : wq2.heap.size = b8 at H3 ⊢
          generalize hw : wq2.alloc (.cells #[.slice none 0 0, .int .i64 0] 24) = wq3 at H3 ⊢
          clear hb hw
          refine hK.out _ _ ?_ (fun hH59 => ?_)
          · exact ⟨(H3.out.two 3 rfl).1, (H3.out.two 3 rfl).2, (H3.out.two 6 rfl).2⟩
          clear hK K hH53
          try simp only [Act.put, List.setIfInBounds_toArray, List.set_cons_zero, List.set_cons_succ]
          refine lOne 1 (by kernel_rfl) (LStep.op (fun K hK => ?_))
          go_simp
          have H4 := Tre.hid (H3.out.allocRow #[] 38 5 0 (by unfold maxLen; omega) rfl)
          generalize hb : wq3.heap.size = b29 at H4 ⊢
          generalize hw : wq3.alloc (.cells #[] 38) = wq4 at H4 ⊢
          clear hb hw
          refine hK.out _ _ ?_ (fun hH60 => ?_)
          · exact ⟨(H4.out.two 4 rfl).1, (H4.out.two 4 rfl).2, (H4.out.two 7 rfl).2⟩
          clear hK K hH59
          try simp only [Act.put, List.setIfInBounds_toArray, List.set_cons_zero, List.set_cons_succ]
          refine lOne 4 (by kernel_rfl) (LStep.op (fun K hK => ?_))
          simp only [List.getElem?_toArray, List.getElem?_cons_succ, List.getElem?_cons_zero]
          rw [if_pos (by rfl)]
          refine wp_append_row _ _ _ 22 (by rfl) 38 ii _ 5 80 Try.underlying22 J1.out J2.out J3.out J4.out rfl (by omega) (.slice (some ⟨b29, 0, none⟩) 0 0) 0 ([]) (by rfl) (H4.out.row 0 rfl) aF ds.length cF (ds.flatMap NodeV.cells) (by rfl) (nrow5 (H4.out.row 5 rfl)) HONE.out (by unfold maxLen; omega) (by omega) ?_
          intro v' wq5 hown4 hgrow4 hat4
          simp only [Nat.zero_add, List.nil_append] at hown4
          have M4 := H4.out.grow 0 rfl hgrow4 hown4 hat4
          obtain ⟨a32, c32, rfl, _⟩ := M4.val 0 rfl
          have H5 := Tre.hid M4
          clear M4 hown4 hgrow4 hat4
          (try dsimp only)
          refine hK.out _ _ ?_ (fun hH61 => ?_)
          · exact ⟨(H5.out.two 4 rfl).1, (H5.out.two 4 rfl).2, (H5.out.two 7 rfl).2⟩
          clear hK K hH60
          try simp only [Act.put, List.setIfInBounds_toArray, List.set_cons_zero, List.set_cons_succ]
          refine lOne 12 (by kernel_rfl) (LFall.op (by kernel_rfl) (fun K hK => ?_))
          simp only [List.getElem?_toArray, List.getElem?_cons_succ, List.getElem?_cons_zero]
          rw [if_pos (by rfl)]
          refine wp_append_row _ _ _ 22 (by rfl) 38 ii _ 5 80 Try.underlying22 J1.out J2.out J3.out J4.out rfl (by omega) (.slice a32 ds.length c32) ds.length (ds.flatMap NodeV.cells) (by rfl) (H5.out.row 0 rfl) (some ⟨b39, 0, none⟩) 1 1 [.int .i64 2, .string { data := #[42] }, .slice (some ⟨b37, 0, none⟩) 2 2, .slice none 0 0, .bool false] (by rfl) ⟨rfl, fun j u hj => ⟨_, 0, rfl, by rw [Nat.zero_add]; exact H5.out.cellAt 2 rfl j hj⟩⟩ (by simp [Value.oneCell']) (by unfold maxLen; omega) (by omega) ?_
          intro v' wq6 hown4 hgrow4 hat4
          have M4 := H5.out.grow 0 rfl hgrow4 hown4 hat4
          obtain ⟨a40, c40, rfl, _⟩ := M4.val 0 rfl
          have H6 := Tre.hid M4
          clear M4 hown4 hgrow4 hat4
          (try dsimp only)
          refine hK.out _ _ ?_
          clear hK K hH61
          try simp only [Act.put, List.setIfInBounds_toArray, List.set_cons_zero, List.set_cons_succ]
          refine lPure (i := 13) (some 41) (v := ?_) (by rfl) (by kernel_rfl) (by kernel_rfl) (by kernel_rfl) (by kernel_rfl) (fun _ _ _ h => h) (by rfl) ?_ (keep_fell (by kernel_rfl)) ?_
          rotate_left
          · intro w; simp only [List.getElem?_toArray, List.getElem?_cons_succ, List.getElem?_cons_zero, Option.map_some, Option.some.injEq]; (first | (go_simp; done) | (go_simp; with_reducible rfl))
          try simp only [Act.put, List.setIfInBounds_toArray, List.set_cons_zero, List.set_cons_succ]
          refine lOne 15 (by kernel_rfl) (LFall.op (by kernel_rfl) (fun K hK => ?_))
          have z0 := H6.out.free 1 rfl 0
          have z1 := H6.out.free 1 rfl 1
          obtain ⟨y0, y1⟩ := H6.out.two 1 rfl
          have H7 := Tre.hid ((H6.out.setCell 1 rfl 0 (.slice a40 (ds.length + 1) c40)).setCell 1 rfl 1 (.int .i64 (ds.length : Int)))
          go_simp
          refine hK.out _ _ ?_
          clear hK K
          try simp only [Act.put, List.setIfInBounds_toArray, List.set_cons_zero, List.set_cons_succ]
          refine lDone (by kernel_rfl) ?_
          go_wp2_with fail
          go_meet
          exact ⟨b8, a40, c40, b37, rfl, (((((((((H7.out.front 2 rfl).front 7 rfl).front 7 rfl).front 7 rfl).front 7 rfl).front 7 rfl).front 6 rfl).front 7 rfl)).sub (by simp)⟩
      · -- 8
        go_simp
        have H2 := Tre.hid (H1.out.allocR #[.slice none 0 0, .int .i64 0] 24)
        generalize hb : wq1.heap.size = b8 at H2 ⊢
        generalize hw : wq1.alloc (.cells #[.slice none 0 0, .int .i64 0] 24) = wq2 at H2 ⊢
        clear hb hw
        refine hK.out _ _ ?_ (fun hH62 => ?_)
        · exact ⟨(H2.out.two 2 rfl).1, (H2.out.two 2 rfl).2, (H2.out.two 5 rfl).2⟩
        clear hK K hH36
        try simp only [Act.put, List.setIfInBounds_toArray, List.set_cons_zero, List.set_cons_succ]
        refine lTwo 1 11 (by kernel_rfl) (LStep.op (fun K hK => ?_)) (LStep.op (fun K hK => ?_))
        · -- 29
          go_simp
          have H3 := Tre.hid (H2.out.allocRow #[] 38 5 0 (by unfold maxLen; omega) rfl)
          generalize hb : wq2.heap.size = b29 at H3 ⊢
          generalize hw : wq2.alloc (.cells #[] 38) = wq3 at H3 ⊢
          clear hb hw
          refine hK.out _ _ ?_ (fun hH63 => ?_)
          · exact ⟨(H3.out.two 3 rfl).1, (H3.out.two 3 rfl).2, (H3.out.two 6 rfl).2⟩
          clear hK K hH62
          try simp only [Act.put, List.setIfInBounds_toArray, List.set_cons_zero, List.set_cons_succ]
          refine lTwo 4 11 (by kernel_rfl) (LStep.op (fun K hK => ?_)) (LStep.op (fun K hK => ?_))
          · -- 32
            simp only [List.getElem?_toArray, List.getElem?_cons_succ, List.getElem?_cons_zero]
            rw [if_pos (by rfl)]
            refine wp_append_row _ _ _ 22 (by rfl) 38 ii _ 5 80 Try.underlying22 J1.out J2.out J3.out J4.out rfl (by omega) (.slice (some ⟨b29, 0, none⟩) 0 0) 0 ([]) (by rfl) (H3.out.row 0 rfl) aF ds.length cF (ds.flatMap NodeV.cells) (by rfl) (nrow5 (H3.out.row 4 rfl)) HONE.out (by unfold maxLen; omega) (by omega) ?_
            intro v' wq4 hown4 hgrow4 hat4
            simp only [Nat.zero_add, List.nil_append] at hown4
            have M4 := H3.out.grow 0 rfl hgrow4 hown4 hat4
            obtain ⟨a32, c32, rfl, _⟩ := M4.val 0 rfl
            have H4 := Tre.hid M4
            clear M4 hown4 hgrow4 hat4
            (try dsimp only)
            refine hK.out _ _ ?_ (fun hH64 => ?_)
            · exact ⟨(H4.out.two 3 rfl).1, (H4.out.two 3 rfl).2, (H4.out.two 6 rfl).2⟩
            clear hK K hH63
            try simp only [Act.put, List.setIfInBounds_toArray, List.set_cons_zero, List.set_cons_succ]
            refine lOne 11 (by kernel_rfl) (LStep.op (fun K hK => ?_))
            go_simp
            have H5 := Tre.hid (H4.out.allocRow #[.int .i64 2, .string { data := #[42] }, .slice (some ⟨b37, 0, none⟩) 2 2, .slice none 0 0, .bool false] 38 5 1 (by unfold maxLen; omega) rfl)
            generalize hb : wq4.heap.size = b39 at H5 ⊢
            generalize hw : wq4.alloc (.cells #[.int .i64 2, .string { data := #[42] }, .slice (some ⟨b37, 0, none⟩) 2 2, .slice none 0 0, .bool false] 38) = wq5 at H5 ⊢
            clear hb hw
            refine hK.out _ _ ?_ (fun hH65 => ?_)
            · exact ⟨(H5.out.two 4 rfl).1, (H5.out.two 4 rfl).2, (H5.out.two 7 rfl).2⟩
            clear hK K hH64
            try simp only [Act.put, List.setIfInBounds_toArray, List.set_cons_zero, List.set_cons_succ]
            refine lOne 12 (by kernel_rfl) (LFall.op (by kernel_rfl) (fun K hK => ?_))
            simp only [List.getElem?_toArray, List.getElem?_cons_succ, List.getElem?_cons_zero]
            rw [if_pos (by rfl)]
            refine wp_append_row _ _ _ 22 (by rfl) 38 ii _ 5 80 Try.underlying22 J1.out J2.out J3.out J4.out rfl (by omega) (.slice a32 ds.length c32) ds.length (ds.flatMap NodeV.cells) (by rfl) (H5.out.row 1 rfl) (some ⟨b39, 0, none⟩) 1 1 [.int .i64 2, .string { data := #[42] }, .slice (some ⟨b37, 0, none⟩) 2 2, .slice none 0 0, .bool false] (by rfl) ⟨rfl, fun j u hj => ⟨_, 0, rfl, by rw [Nat.zero_add]; exact H5.out.cellAt 0 rfl j hj⟩⟩ (by simp [Value.oneCell']) (by unfold maxLen; omega) (by omega) ?_
            intro v' wq6 hown4 hgrow4 hat4
            have M4 := H5.out.grow 1 rfl hgrow4 hown4 hat4
            obtain ⟨a40, c40, rfl, _⟩ := M4.val 1 rfl
            have H6 := Tre.hid M4
            clear M4 hown4 hgrow4 hat4
            (try dsimp only)
            refine hK.out _ _ ?_
            clear hK K hH65
            try simp only [Act.put, List.setIfInBounds_toArray, List.set_cons_zero, List.set_cons_succ]
            refine lPure (i := 13) (some 41) (v := ?_) (by rfl) (by kernel_rfl) (by kernel_rfl) (by kernel_rfl) (by kernel_rfl) (fun _ _ _ h => h) (by rfl) ?_ (keep_fell (by kernel_rfl)) ?_
            rotate_left
            · intro w; simp only [List.getElem?_toArray, List.getElem?_cons_succ, List.getElem?_cons_zero, Option.map_some, Option.some.injEq]; (first | (go_simp; done) | (go_simp; with_reducible rfl))
            try simp only [Act.put, List.setIfInBounds_toArray, List.set_cons_zero, List.set_cons_succ]
            refine lOne 15 (by kernel_rfl) (LFall.op (by kernel_rfl) (fun K hK => ?_))
            have z0 := H6.out.free 2 rfl 0
            have z1 := H6.out.free 2 rfl 1
            obtain ⟨y0, y1⟩ := H6.out.two 2 rfl
            have H7 := Tre.hid ((H6.out.setCell 2 rfl 0 (.slice a40 (ds.length + 1) c40)).setCell 2 rfl 1 (.int .i64 (ds.length : Int)))
            go_simp
            refine hK.out _ _ ?_
            clear hK K
            try simp only [Act.put, List.setIfInBounds_toArray, List.set_cons_zero, List.set_cons_succ]
            refine lDone (by kernel_rfl) ?_
            go_wp2_with fail
            go_meet
            exact ⟨b8, a40, c40, b37, rfl, (((((((((H7.out.front 0 rfl).front 7 rfl).front 7 rfl).front 7 rfl).front 7 rfl).front 7 rfl).front 6 rfl).front 7 rfl)).sub (by simp)⟩
          · -- 39
            go_simp
            have H4 := Tre.hid (H3.out.allocRow #[.int .i64 2, .string { data := #[42] }, .slice (some ⟨b37, 0, none⟩) 2 2, .slice none 0 0, .bool false] 38 5 1 (by unfold maxLen; omega) rfl)
            generalize hb : wq3.heap.size = b39 at H4 ⊢
            generalize hw : wq3.alloc (.cells #[.int .i64 2, .string { data := #[42] }, .slice (some ⟨b37, 0, none⟩) 2 2, .slice none 0 0, .bool false] 38) = wq4 at H4 ⊢
            clear hb hw
            refine hK.out _ _ ?_ (fun hH66 => ?_)
            · exact ⟨(H4.out.two 4 rfl).1, (H4.out.two 4 rfl).2, (H4.out.two 7 rfl).2⟩
            clear hK K hH63
            try simp only [Act.put, List.setIfInBounds_toArray, List.set_cons_zero, List.set_cons_succ]
            refine lOne 4 (by kernel_rfl) (LStep.op (fun K hK => ?_))
            simp only [List.getElem?_toArray, List.getElem?_cons_succ, List.getElem?_cons_zero]
            rw [if_pos (by rfl)]
            refine wp_append_row _ _ _ 22 (by rfl) 38 ii _ 5 80 Try.underlying22 J1.out J2.out J3.out J4.out rfl (by omega) (.slice (some ⟨b29, 0, none⟩) 0 0) 0 ([]) (by rfl) (H4.out.row 1 rfl) aF ds.length cF (ds.flatMap NodeV.cells) (by rfl) (nrow5 (H4.out.row 5 rfl)) HONE.out (by unfold maxLen; omega) (by omega) ?_
            intro v' wq5 hown4 hgrow4 hat4
            simp only [Nat.zero_add, List.nil_append] at hown4
            have M4 := H4.out.grow 1 rfl hgrow4 hown4 hat4
            obtain ⟨a32, c32, rfl, _⟩ := M4.val 1 rfl
            have H5 := Tre.hid M4
            clear M4 hown4 hgrow4 hat4
            (try dsimp only)
            refine hK.out _ _ ?_ (fun hH67 => ?_)
            · exact ⟨(H5.out.two 4 rfl).1, (H5.out.two 4 rfl).2, (H5.out.two 7 rfl).2⟩
            clear hK K hH66
            try simp only [Act.put, List.setIfInBounds_toArray, List.set_cons_zero, List.set_cons_succ]
            refine lOne 12 (by kernel_rfl) (LFall.op (by kernel_rfl) (fun K hK => ?_))
            simp only [List.getElem?_toArray, List.getElem?_cons_succ, List.getElem?_cons_zero]
            rw [if_pos (by rfl)]
            refine wp_append_row _ _ _ 22 (by rfl) 38 ii _ 5 80 Try.underlying22 J1.out J2.out J3.out J4.out rfl (by omega) (.slice a32 ds.length c32) ds.length (ds.flatMap NodeV.cells) (by rfl) (H5.out.row 1 rfl) (some ⟨b39, 0, none⟩) 1 1 [.int .i64 2, .string { data := #[42] }, .slice (some ⟨b37, 0, none⟩) 2 2, .slice none 0 0, .bool false] (by rfl) ⟨rfl, fun j u hj => ⟨_, 0, rfl, by rw [Nat.zero_add]; exact H5.out.cellAt 0 rfl j hj⟩⟩ (by simp [Value.oneCell']) (by unfold maxLen; omega) (by omega) ?_
            intro v' wq6 hown4 hgrow4 hat4
            have M4 := H5.out.grow 1 rfl hgrow4 hown4 hat4
            obtain ⟨a40, c40, rfl, _⟩ := M4.val 1 rfl
            have H6 := Tre.hid M4
            clear M4 hown4 hgrow4 hat4
            (try dsimp only)
            refine hK.out _ _ ?_
            clear hK K hH67
            try simp only [Act.put, List.setIfInBounds_toArray, List.set_cons_zero, List.set_cons_succ]
            refine lPure (i := 13) (some 41) (v := ?_) (by rfl) (by kernel_rfl) (by kernel_rfl) (by kernel_rfl) (by kernel_rfl) (fun _ _ _ h => h) (by rfl) ?_ (keep_fell (by kernel_rfl)) ?_
            rotate_left
            · intro w; simp only [List.getElem?_toArray, List.getElem?_cons_succ, List.getElem?_cons_zero, Option.map_some, Option.some.injEq]; (first | (go_simp; done) | (go_simp; with_reducible rfl))
            try simp only [Act.put, List.setIfInBounds_toArray, List.set_cons_zero, List.set_cons_succ]
            refine lOne 15 (by kernel_rfl) (LFall.op (by kernel_rfl) (fun K hK => ?_))
            have z0 := H6.out.free 2 rfl 0
            have z1 := H6.out.free 2 rfl 1
            obtain ⟨y0, y1⟩ := H6.out.two 2 rfl
            have H7 := Tre.hid ((H6.out.setCell 2 rfl 0 (.slice a40 (ds.length + 1) c40)).setCell 2 rfl 1 (.int .i64 (ds.length : Int)))
            go_simp
            refine hK.out _ _ ?_
            clear hK K
            try simp only [Act.put, List.setIfInBounds_toArray, List.set_cons_zero, List.set_cons_succ]
            refine lDone (by kernel_rfl) ?_
            go_wp2_with fail
            go_meet
            exact ⟨b8, a40, c40, b37, rfl, (((((((((H7.out.front 0 rfl).front 7 rfl).front 7 rfl).front 7 rfl).front 7 rfl).front 7 rfl).front 6 rfl).front 7 rfl)).sub (by simp)⟩
        · -- 39
          go_simp
          have H3 := Tre.hid (H2.out.allocRow #[.int .i64 2, .string { data := #[42] }, .slice (some ⟨b37, 0, none⟩) 2 2, .slice none 0 0, .bool false] 38 5 1 (by unfold maxLen; omega) rfl)
          generalize hb : wq2.heap.size = b39 at H3 ⊢
          generalize hw : wq2.alloc (.cells #[.int .i64 2, .string { data := #[42] }, .slice (some ⟨b37, 0, none⟩) 2 2, .slice none 0 0, .bool false] 38) = wq3 at H3 ⊢
          clear hb hw
          refine hK.out _ _ ?_ (fun hH68 => ?_)
          · exact ⟨(H3.out.two 3 rfl).1, (H3.out.two 3 rfl).2, (H3.out.two 6 rfl).2⟩
          clear hK K hH62
          try simp only [Act.put, List.setIfInBounds_toArray, List.set_cons_zero, List.set_cons_succ]
          refine lOne 1 (by kernel_rfl) (LStep.op (fun K hK => ?_))
          go_simp
          have H4 := Tre.hid (H3.out.allocRow #[] 38 5 0 (by unfold maxLen; omega) rfl)
          generalize hb : wq3.heap.size = b29 at H4 ⊢
          generalize hw : wq3.alloc (.cells #[] 38) = wq4 at H4 ⊢
          clear hb hw
          refine hK.out _ _ ?_ (fun hH69 => ?_)
          · exact ⟨(H4.out.two 4 rfl).1, (H4.out.two 4 rfl).2, (H4.out.two 7 rfl).2⟩
          clear hK K hH68
          try simp only [Act.put, List.setIfInBounds_toArray, List.set_cons_zero, List.set_cons_succ]
          refine lOne 4 (by kernel_rfl) (LStep.op (fun K hK => ?_))
          simp only [List.getElem?_toArray, List.getElem?_cons_succ, List.getElem?_cons_zero]
          rw [if_pos (by rfl)]
          refine wp_append_row _ _ _ 22 (by rfl) 38 ii _ 5 80 Try.underlying22 J1.out J2.out J3.out J4.out rfl (by omega) (.slice (some ⟨b29, 0, none⟩) 0 0) 0 ([]) (by rfl) (H4.out.row 0 rfl) aF ds.length cF (ds.flatMap NodeV.cells) (by rfl) (nrow5 (H4.out.row 5 rfl)) HONE.out (by unfold maxLen; omega) (by omega) ?_
          intro v' wq5 hown4 hgrow4 hat4
          simp only [Nat.zero_add, List.nil_append] at hown4
          have M4 := H4.out.grow 0 rfl hgrow4 hown4 hat4
          obtain ⟨a32, c32, rfl, _⟩ := M4.val 0 rfl
          have H5 := Tre.hid M4
          clear M4 hown4 hgrow4 hat4
          (try dsimp only)
          refine hK.out _ _ ?_ (fun hH70 => ?_)
          · exact ⟨(H5.out.two 4 rfl).1, (H5.out.two 4 rfl).2, (H5.out.two 7 rfl).2⟩
          clear hK K hH69
          try simp only [Act.put, List.setIfInBounds_toArray, List.set_cons_zero, List.set_cons_succ]
          refine lOne 12 (by kernel_rfl) (LFall.op (by kernel_rfl) (fun K hK => ?_))
          simp only [List.getElem?_toArray, List.getElem?_cons_succ, List.getElem?_cons_zero]
          rw [if_pos (by rfl)]
          refine wp_append_row _ _ _ 22 (by rfl) 38 ii _ 5 80 Try.underlying22 J1.out J2.out J3.out J4.out rfl (by omega) (.slice a32 ds.length c32) ds.length (ds.flatMap NodeV.cells) (by rfl) (H5.out.row 0 rfl) (some ⟨b39, 0, none⟩) 1 1 [.int .i64 2, .string { data := #[42] }, .slice (some ⟨b37, 0, none⟩) 2 2, .slice none 0 0, .bool false] (by rfl) ⟨rfl, fun j u hj => ⟨_, 0, rfl, by rw [Nat.zero_add]; exact H5.out.cellAt 1 rfl j hj⟩⟩ (by simp [Value.oneCell']) (by unfold maxLen; omega) (by omega) ?_
          intro v' wq6 hown4 hgrow4 hat4
          have M4 := H5.out.grow 0 rfl hgrow4 hown4 hat4
          obtain ⟨a40, c40, rfl, _⟩ := M4.val 0 rfl
          have H6 := Tre.hid M4
          clear M4 hown4 hgrow4 hat4
          (try dsimp only)
          refine hK.out _ _ ?_
          clear hK K hH70
          try simp only [Act.put, List.setIfInBounds_toArray, List.set_cons_zero, List.set_cons_succ]
          refine lPure (i := 13) (some 41) (v := ?_) (by rfl) (by kernel_rfl) (by kernel_rfl) (by kernel_rfl) (by kernel_rfl) (fun _ _ _ h => h) (by rfl) ?_ (keep_fell (by kernel_rfl)) ?_
          rotate_left
          · intro w; simp only [List.getElem?_toArray, List.getElem?_cons_succ, List.getElem?_cons_zero, Option.map_some, Option.some.injEq]; (first | (go_simp; done) | (go_simp; with_reducible rfl))
          try simp only [Act.put, List.setIfInBounds_toArray, List.set_cons_zero, List.set_cons_succ]
          refine lOne 15 (by kernel_rfl) (LFall.op (by kernel_rfl) (fun K hK => ?_))
          have z0 := H6.out.free 2 rfl 0
          have z1 := H6.out.free 2 rfl 1
          obtain ⟨y0, y1⟩ := H6.out.two 2 rfl
          have H7 := Tre.hid ((H6.out.setCell 2 rfl 0 (.slice a40 (ds.length + 1) c40)).setCell 2 rfl 1 (.int .i64 (ds.length : Int)))
          go_simp
          refine hK.out _ _ ?_
          clear hK K
          try simp only [Act.put, List.setIfInBounds_toArray, List.set_cons_zero, List.set_cons_succ]
          refine lDone (by kernel_rfl) ?_
          go_wp2_with fail
          go_meet
          exact ⟨b8, a40, c40, b37, rfl, (((((((((H7.out.front 1 rfl).front 7 rfl).front 7 rfl).front 7 rfl).front 7 rfl).front 7 rfl).front 6 rfl).front 7 rfl)).sub (by simp)⟩
    · -- 8
      go_simp
      have H1 := Tre.hid (H0.out.allocR #[.slice none 0 0, .int .i64 0] 24)
      generalize hb : wq0.heap.size = b8 at H1 ⊢
      generalize hw : wq0.alloc (.cells #[.slice none 0 0, .int .i64 0] 24) = wq1 at H1 ⊢
      clear hb hw
      refine hK.out _ _ ?_ (fun hH71 => ?_)
      · exact ⟨(H1.out.two 1 rfl).1, (H1.out.two 1 rfl).2, (H1.out.two 4 rfl).2⟩
      clear hK K hH0
      try simp only [Act.put, List.setIfInBounds_toArray, List.set_cons_zero, List.set_cons_succ]
      refine lTwo 1 9 (by kernel_rfl) (LStep.op (fun K hK => ?_)) (LStep.op (fun K hK => ?_))
      · -- 29
        go_simp
        have H2 := Tre.hid (H1.out.allocRow #[] 38 5 0 (by unfold maxLen; omega) rfl)
        generalize hb : wq1.heap.size = b29 at H2 ⊢
        generalize hw : wq1.alloc (.cells #[] 38) = wq2 at H2 ⊢
        clear hb hw
        refine hK.out _ _ ?_ (fun hH72 => ?_)
        · exact ⟨(H2.out.two 2 rfl).1, (H2.out.two 2 rfl).2, (H2.out.two 5 rfl).2⟩
        clear hK K hH71
        try simp only [Act.put, List.setIfInBounds_toArray, List.set_cons_zero, List.set_cons_succ]
        refine lTwo 4 9 (by kernel_rfl) (LStep.op (fun K hK => ?_)) (LStep.op (fun K hK => ?_))
        · -- 32
          simp only [List.getElem?_toArray, List.getElem?_cons_succ, List.getElem?_cons_zero]
          rw [if_pos (by rfl)]
          refine wp_append_row _ _ _ 22 (by rfl) 38 ii _ 5 80 Try.underlying22 J1.out J2.out J3.out J4.out rfl (by omega) (.slice (some ⟨b29, 0, none⟩) 0 0) 0 ([]) (by rfl) (H2.out.row 0 rfl) aF ds.length cF (ds.flatMap NodeV.cells) (by rfl) (nrow5 (H2.out.row 3 rfl)) HONE.out (by unfold maxLen; omega) (by omega) ?_
          intro v' wq3 hown4 hgrow4 hat4
          simp only [Nat.zero_add, List.nil_append] at hown4
          have M4 := H2.out.grow 0 rfl hgrow4 hown4 hat4
          obtain ⟨a32, c32, rfl, _⟩ := M4.val 0 rfl
          have H3 := Tre.hid M4
          clear M4 hown4 hgrow4 hat4
          (try dsimp only)
          refine hK.out _ _ ?_ (fun hH73 => ?_)
          · exact ⟨(H3.out.two 2 rfl).1, (H3.out.two 2 rfl).2, (H3.out.two 5 rfl).2⟩
          clear hK K hH72
          try simp only [Act.put, List.setIfInBounds_toArray, List.set_cons_zero, List.set_cons_succ]
          refine lOne 9 (by kernel_rfl) (LStep.op (fun K hK => ?_))
          go_simp
          have H4 := Tre.hid (H3.out.allocR #[.int .i64 g.root, .int .i64 f.root] 3)
          generalize hb : wq3.heap.size = b37 at H4 ⊢
          generalize hw : wq3.alloc (.cells #[.int .i64 g.root, .int .i64 f.root] 3) = wq4 at H4 ⊢
          clear hb hw
          refine hK.out _ _ ?_ (fun hH74 => ?_)
          · exact ⟨(H4.out.two 3 rfl).1, (H4.out.two 3 rfl).2, (H4.out.two 6 rfl).2⟩
          clear hK K hH73
          try simp only [Act.put, List.setIfInBounds_toArray, List.set_cons_zero, List.set_cons_succ]
          refine lPure (i := 10) (some 38) (v := ?_) (by rfl) (by kernel_rfl) (by kernel_rfl) (by kernel_rfl) (by kernel_rfl) (fun _ _ _ h => h) (by rfl) ?_ (keep_of hH74) ?_
          rotate_left
          · intro w; simp only [List.getElem?_toArray, List.getElem?_cons_succ, List.getElem?_cons_zero, Option.map_some, Option.some.injEq]; (first | (go_simp; done) | (go_simp; with_reducible rfl))
          try simp only [Act.put, List.setIfInBounds_toArray, List.set_cons_zero, List.set_cons_succ]
          refine lOne 11 (by kernel_rfl) (LStep.op (fun K hK => ?_))
          go_simp
          have H5 := Tre.hid (H4.out.allocRow #[.int .i64 2, .string { data := #[42] }, .slice (some ⟨b37, 0, none⟩) 2 2, .slice none 0 0, .bool false] 38 5 1 (by unfold maxLen; omega) rfl)
          generalize hb : wq4.heap.size = b39 at H5 ⊢
          generalize hw : wq4.alloc (.cells #[.int .i64 2, .string { data := #[42] }, .slice (some ⟨b37, 0, none⟩) 2 2, .slice none 0 0, .bool false] 38) = wq5 at H5 ⊢
          clear hb hw
          refine hK.out _ _ ?_ (fun hH75 => ?_)
          · exact ⟨(H5.out.two 4 rfl).1, (H5.out.two 4 rfl).2, (H5.out.two 7 rfl).2⟩
          clear hK K hH74
          try simp only [Act.put, List.setIfInBounds_toArray, List.set_cons_zero, List.set_cons_succ]
          refine lOne 12 (by kernel_rfl) (LFall.op (by kernel_rfl) (fun K hK => ?_))
          simp only [List.getElem?_toArray, List.getElem?_cons_succ, List.getElem?_cons_zero]
          rw [if_pos (by rfl)]
          refine wp_append_row _ _ _ 22 (by rfl) 38 ii _ 5 80 Try.underlying22 J1.out J2.out J3.out J4.out rfl (by omega) (.slice a32 ds.length c32) ds.length (ds.flatMap NodeV.cells) (by rfl) (H5.out.row 2 rfl) (some ⟨b39, 0, none⟩) 1 1 [.int .i64 2, .string { data := #[42] }, .slice (some ⟨b37, 0, none⟩) 2 2, .slice none 0 0, .bool false] (by rfl) ⟨rfl, fun j u hj => ⟨_, 0, rfl, by rw [Nat.zero_add]; exact H5.out.cellAt 0 rfl j hj⟩⟩ (by simp [Value.oneCell']) (by unfold maxLen; omega) (by omega) ?_
          intro v' wq6 hown4 hgrow4 hat4
          have M4 := H5.out.grow 2 rfl hgrow4 hown4 hat4
          obtain ⟨a40, c40, rfl, _⟩ := M4.val 2 rfl
          have H6 := Tre.hid M4
          clear M4 hown4 hgrow4 hat4
          (try dsimp only)
          refine hK.out _ _ ?_
          clear hK K hH75
          try simp only [Act.put, List.setIfInBounds_toArray, List.set_cons_zero, List.set_cons_succ]
          refine lPure (i := 13) (some 41) (v := ?_) (by rfl) (by kernel_rfl) (by kernel_rfl) (by kernel_rfl) (by kernel_rfl) (fun _ _ _ h => h) (by rfl) ?_ (keep_fell (by kernel_rfl)) ?_
          rotate_left
          · intro w; simp only [List.getElem?_toArray, List.getElem?_cons_succ, List.getElem?_cons_zero, Option.map_some, Option.some.injEq]; (first | (go_simp; done) | (go_simp; with_reducible rfl))
          try simp only [Act.put, List.setIfInBounds_toArray, List.set_cons_zero, List.set_cons_succ]
          refine lOne 15 (by kernel_rfl) (LFall.op (by kernel_rfl) (fun K hK => ?_))
          have z0 := H6.out.free 3 rfl 0
          have z1 := H6.out.free 3 rfl 1
          obtain ⟨y0, y1⟩ := H6.out.two 3 rfl
          have H7 := Tre.hid ((H6.out.setCell 3 rfl 0 (.slice a40 (ds.length + 1) c40)).setCell 3 rfl 1 (.int .i64 (ds.length : Int)))
          go_simp
          refine hK.out _ _ ?_
          clear hK K
          try simp only [Act.put, List.setIfInBounds_toArray, List.set_cons_zero, List.set_cons_succ]
          refine lDone (by kernel_rfl) ?_
          go_wp2_with fail
          go_meet
          exact ⟨b8, a40, c40, b37, rfl, (((((((((H7.out.front 0 rfl).front 7 rfl).front 7 rfl).front 7 rfl).front 7 rfl).front 5 rfl).front 6 rfl).front 7 rfl)).sub (by simp)⟩
        · -- 37
          go_simp
          have H3 := Tre.hid (H2.out.allocR #[.int .i64 g.root, .int .i64 f.root] 3)
          generalize hb : wq2.heap.size = b37 at H3 ⊢
          generalize hw : wq2.alloc (.cells #[.int .i64 g.root, .int .i64 f.root] 3) = wq3 at H3 ⊢
          clear hb hw
          refine hK.out _ _ ?_ (fun hH76 => ?_)
          · exact ⟨(H3.out.two 3 rfl).1, (H3.out.two 3 rfl).2, (H3.out.two 6 rfl).2⟩
          clear hK K hH72
          try simp only [Act.put, List.setIfInBounds_toArray, List.set_cons_zero, List.set_cons_succ]
          refine lPure (i := 10) (some 38) (v := ?_) (by rfl) (by kernel_rfl) (by kernel_rfl) (by kernel_rfl) (by kernel_rfl) (fun _ _ _ h => h) (by rfl) ?_ (keep_of hH76) ?_
          rotate_left
          · intro w; simp only [List.getElem?_toArray, List.getElem?_cons_succ, List.getElem?_cons_zero, Option.map_some, Option.some.injEq]; (first | (go_simp; done) | (go_simp; with_reducible rfl))
          try simp only [Act.put, List.setIfInBounds_toArray, List.set_cons_zero, List.set_cons_succ]
          refine lTwo 4 11 (by kernel_rfl) (LStep.op (fun K hK => ?_)) (LStep.op (fun K hK => ?_))
          · -- 32
            simp only [List.getElem?_toArray, List.getElem?_cons_succ, List.getElem?_cons_zero]
            rw [if_pos (by rfl)]
            refine wp_append_row _ _ _ 22 (by rfl) 38 ii _ 5 80 Try.underlying22 J1.out J2.out J3.out J4.out rfl (by omega) (.slice (some ⟨b29, 0, none⟩) 0 0) 0 ([]) (by rfl) (H3.out.row 1 rfl) aF ds.length cF (ds.flatMap NodeV.cells) (by rfl) (nrow5 (H3.out.row 4 rfl)) HONE.out (by unfold maxLen; omega) (by omega) ?_
            intro v' wq4 hown4 hgrow4 hat4
            simp only [Nat.zero_add, List.nil_append] at hown4
            have M4 := H3.out.grow 1 rfl hgrow4 hown4 hat4
            obtain ⟨a32, c32, rfl, _⟩ := M4.val 1 rfl
            have H4 := Tre.hid M4
            clear M4 hown4 hgrow4 hat4
            (try dsimp only)
            refine hK.out _ _ ?_ (fun hH77 => ?_)
            · exact ⟨(H4.out.two 3 rfl).1, (H4.out.two 3 rfl).2, (H4.out.two 6 rfl).2⟩
            clear hK K hH76
            try simp only [Act.put, List.setIfInBounds_toArray, List.set_cons_zero, List.set_cons_succ]
            refine lOne 11 (by kernel_rfl) (LStep.op (fun K hK => ?_))
            go_simp
            have H5 := Tre.hid (H4.out.allocRow #[.int .i64 2, .string { data := #[42] }, .slice (some ⟨b37, 0, none⟩) 2 2, .slice none 0 0, .bool false] 38 5 1 (by unfold maxLen; omega) rfl)
            generalize hb : wq4.heap.size = b39 at H5 ⊢
            generalize hw : wq4.alloc (.cells #[.int .i64 2, .string { data := #[42] }, .slice (some ⟨b37, 0, none⟩) 2 2, .slice none 0 0, .bool false] 38) = wq5 at H5 ⊢
            clear hb hw
            refine hK.out _ _ ?_ (fun hH78 => ?_)
            · exact ⟨(H5.out.two 4 rfl).1, (H5.out.two 4 rfl).2, (H5.out.two 7 rfl).2⟩
            clear hK K hH77
            try simp only [Act.put, List.setIfInBounds_toArray, List.set_cons_zero, List.set_cons_succ]
            refine lOne 12 (by kernel_rfl) (LFall.op (by kernel_rfl) (fun K hK => ?_))
            simp only [List.getElem?_toArray, List.getElem?_cons_succ, List.getElem?_cons_zero]
            rw [if_pos (by rfl)]
            refine wp_append_row _ _ _ 22 (by rfl) 38 ii _ 5 80 Try.underlying22 J1.out J2.out J3.out J4.out rfl (by omega) (.slice a32 ds.length c32) ds.length (ds.flatMap NodeV.cells) (by rfl) (H5.out.row 2 rfl) (some ⟨b39, 0, none⟩) 1 1 [.int .i64 2, .string { data := #[42] }, .slice (some ⟨b37, 0, none⟩) 2 2, .slice none 0 0, .bool false] (by rfl) ⟨rfl, fun j u hj => ⟨_, 0, rfl, by rw [Nat.zero_add]; exact H5.out.cellAt 0 rfl j hj⟩⟩ (by simp [Value.oneCell']) (by unfold maxLen; omega) (by omega) ?_
            intro v' wq6 hown4 hgrow4 hat4
            have M4 := H5.out.grow 2 rfl hgrow4 hown4 hat4
            obtain ⟨a40, c40, rfl, _⟩ := M4.val 2 rfl
            have H6 := Tre.hid M4
            clear M4 hown4 hgrow4 hat4
            (try dsimp only)
            refine hK.out _ _ ?_
            clear hK K hH78
            try simp only [Act.put, List.setIfInBounds_toArray, List.set_cons_zero, List.set_cons_succ]
            refine lPure (i := 13) (some 41) (v := ?_) (by rfl) (by kernel_rfl) (by kernel_rfl) (by kernel_rfl) (by kernel_rfl) (fun _ _ _ h => h) (by rfl) ?_ (keep_fell (by kernel_rfl)) ?_
            rotate_left
            · intro w; simp only [List.getElem?_toArray, List.getElem?_cons_succ, List.getElem?_cons_zero, Option.map_some, Option.some.injEq]; (first | (go_simp; done) | (go_simp; with_reducible rfl))
            try simp only [Act.put, List.setIfInBounds_toArray, List.set_cons_zero, List.set_cons_succ]
            refine lOne 15 (by kernel_rfl) (LFall.op (by kernel_rfl) (fun K hK => ?_))
            have z0 := H6.out.free 3 rfl 0
            have z1 := H6.out.free 3 rfl 1
            obtain ⟨y0, y1⟩ := H6.out.two 3 rfl
            have H7 := Tre.hid ((H6.out.setCell 3 rfl 0 (.slice a40 (ds.length + 1) c40)).setCell 3 rfl 1 (.int .i64 (ds.length : Int)))
            go_simp
            refine hK.out _ _ ?_
            clear hK K
            try simp only [Act.put, List.setIfInBounds_toArray, List.set_cons_zero, List.set_cons_succ]
            refine lDone (by kernel_rfl) ?_
            go_wp2_with fail
            go_meet
            exact ⟨b8, a40, c40, b37, rfl, (((((((((H7.out.front 0 rfl).front 7 rfl).front 7 rfl).front 7 rfl).front 7 rfl).front 5 rfl).front 6 rfl).front 7 rfl)).sub (by simp)⟩
          · -- 39
            go_simp
            have H4 := Tre.hid (H3.out.allocRow #[.int .i64 2, .string { data := #[42] }, .slice (some ⟨b37, 0, none⟩) 2 2, .slice none 0 0, .bool false] 38 5 1 (by unfold maxLen; omega) rfl)
            generalize hb : wq3.heap.size = b39 at H4 ⊢
            generalize hw : wq3.alloc (.cells #[.int .i64 2, .string { data := #[42] }, .slice (some ⟨b37, 0, none⟩) 2 2, .slice none 0 0, .bool false] 38) = wq4 at H4 ⊢
            clear hb hw
            refine hK.out _ _ ?_ (fun hH79 => ?_)
            · exact ⟨(H4.out.two 4 rfl).1, (H4.out.two 4 rfl).2, (H4.out.two 7 rfl).2⟩
            clear hK K hH76
            try simp only [Act.put, List.setIfInBounds_toArray, List.set_cons_zero, List.set_cons_succ]
            refine lOne 4 (by kernel_rfl) (LStep.op (fun K hK => ?_))
            simp only [List.getElem?_toArray, List.getElem?_cons_succ, List.getElem?_cons_zero]
            rw [if_pos (by rfl)]
            refine wp_append_row _ _ _ 22 (by rfl) 38 ii _ 5 80 Try.underlying22 J1.out J2.out J3.out J4.out rfl (by omega) (.slice (some ⟨b29, 0, none⟩) 0 0) 0 ([]) (by rfl) (H4.out.row 2 rfl) aF ds.length cF (ds.flatMap NodeV.cells) (by rfl) (nrow5 (H4.out.row 5 rfl)) HONE.out (by unfold maxLen; omega) (by omega) ?_
            intro v' wq5 hown4 hgrow4 hat4
            simp only [Nat.zero_add, List.nil_append] at hown4
            have M4 := H4.out.grow 2 rfl hgrow4 hown4 hat4
            obtain ⟨a32, c32, rfl, _⟩ := M4.val 2 rfl
            have H5 := Tre.hid M4
            clear M4 hown4 hgrow4 hat4
            (try dsimp only)
            refine hK.out _ _ ?_ (fun hH80 => ?_)
            · exact ⟨(H5.out.two 4 rfl).1, (H5.out.two 4 rfl).2, (H5.out.two 7 rfl).2⟩
            clear hK K hH79
            try simp only [Act.put, List.setIfInBounds_toArray, List.set_cons_zero, List.set_cons_succ]
            refine lOne 12 (by kernel_rfl) (LFall.op (by kernel_rfl) (fun K hK => ?_))
            simp only [List.getElem?_toArray, List.getElem?_cons_succ, List.getElem?_cons_zero]
            rw [if_pos (by rfl)]
            refine wp_append_row _ _ _ 22 (by rfl) 38 ii _ 5 80 Try.underlying22 J1.out J2.out J3.out J4.out rfl (by omega) (.slice a32 ds.length c32) ds.length (ds.flatMap NodeV.cells) (by rfl) (H5.out.row 2 rfl) (some ⟨b39, 0, none⟩) 1 1 [.int .i64 2, .string { data := #[42] }, .slice (some ⟨b37, 0, none⟩) 2 2, .slice none 0 0, .bool false] (by rfl) ⟨rfl, fun j u hj => ⟨_, 0, rfl, by rw [Nat.zero_add]; exact H5.out.cellAt 0 rfl j hj⟩⟩ (by simp [Value.oneCell']) (by unfold maxLen; omega) (by omega) ?_
            intro v' wq6 hown4 hgrow4 hat4
            have M4 := H5.out.grow 2 rfl hgrow4 hown4 hat4
            obtain ⟨a40, c40, rfl, _⟩ := M4.val 2 rfl
            have H6 := Tre.hid M4
            clear M4 hown4 hgrow4 hat4
            (try dsimp only)
            refine hK.out _ _ ?_
            clear hK K hH80
            try simp only [Act.put, List.setIfInBounds_toArray, List.set_cons_zero, List.set_cons_succ]
            refine lPure (i := 13) (some 41) (v := ?_) (by rfl) (by kernel_rfl) (by kernel_rfl) (by kernel_rfl) (by kernel_rfl) (fun _ _ _ h => h) (by rfl) ?_ (keep_fell (by kernel_rfl)) ?_
            rotate_left
            · intro w; simp only [List.getElem?_toArray, List.getElem?_cons_succ, List.getElem?_cons_zero, Option.map_some, Option.some.injEq]; (first | (go_simp; done) | (go_simp; with_reducible rfl))
            try simp only [Act.put, List.setIfInBounds_toArray, List.set_cons_zero, List.set_cons_succ]
            refine lOne 15 (by kernel_rfl) (LFall.op (by kernel_rfl) (fun K hK => ?_))
            have z0 := H6.out.free 3 rfl 0
            have z1 := H6.out.free 3 rfl 1
            obtain ⟨y0, y1⟩ := H6.out.two 3 rfl
            have H7 := Tre.hid ((H6.out.setCell 3 rfl 0 (.slice a40 (ds.length + 1) c40)).setCell 3 rfl 1 (.int .i64 (ds.length : Int)))
            go_simp
            refine hK.out _ _ ?_
            clear hK K
            try simp only [Act.put, List.setIfInBounds_toArray, List.set_cons_zero, List.set_cons_succ]
            refine lDone (by kernel_rfl) ?_
            go_wp2_with fail
            go_meet
            exact ⟨b8, a40, c40, b37, rfl, (((((((((H7.out.front 0 rfl).front 7 rfl).front 7 rfl).front 7 rfl).front 7 rfl).front 5 rfl).front 6 rfl).front 7 rfl)).sub (by simp)⟩
      · -- 37
        go_simp
        have H2 := Tre.hid (H1.out.allocR #[.int .i64 g.root, .int .i64 f.root] 3)
        generalize hb : wq1.heap.size = b37 at H2 ⊢
        generalize hw : wq1.alloc (.cells #[.int .i64 g.root, .int .i64 f.root] 3) = wq2 at H2 ⊢
        clear hb hw
        refine hK.out _ _ ?_ (fun hH81 => ?_)
        · exact ⟨(H2.out.two 2 rfl).1, (H2.out.two 2 rfl).2, (H2.out.two 5 rfl).2⟩
        clear hK K hH71
        try simp only [Act.put, List.setIfInBounds_toArray, List.set_cons_zero, List.set_cons_succ]
        refine lPure (i := 10) (some 38) (v := ?_) (by rfl) (by kernel_rfl) (by kernel_rfl) (by kernel_rfl) (by kernel_rfl) (fun _ _ _ h => h) (by rfl) ?_ (keep_of hH81) ?_
        rotate_left
        · intro w; simp only [List.getElem?_toArray, List.getElem?_cons_succ, List.getElem?_cons_zero, Option.map_some, Option.some.injEq]; (first | (go_simp; done) | (go_simp; with_reducible rfl))
        try simp only [Act.put, List.setIfInBounds_toArray, List.set_cons_zero, List.set_cons_succ]
        refine lTwo 1 11 (by kernel_rfl) (LStep.op (fun K hK => ?_)) (LStep.op (fun K hK => ?_))
        · -- 29
          go_simp
          have H3 := Tre.hid (H2.out.allocRow #[] 38 5 0 (by unfold maxLen; omega) rfl)
          generalize hb : wq2.heap.size = b29 at H3 ⊢
          generalize hw : wq2.alloc (.cells #[] 38) = wq3 at H3 ⊢
          clear hb hw
          refine hK.out _ _ ?_ (fun hH82 => ?_)
          · exact ⟨(H3.out.two 3 rfl).1, (H3.out.two 3 rfl).2, (H3.out.two 6 rfl).2⟩
          clear hK K hH81
          try simp only [Act.put, List.setIfInBounds_toArray, List.set_cons_zero, List.set_cons_succ]
          refine lTwo 4 11 (by kernel_rfl) (LStep.op (fun K hK => ?_)) (LStep.op (fun K hK => ?_))
          · -- 32
            simp only [List.getElem?_toArray, List.getElem?_cons_succ, List.getElem?_cons_zero]
            rw [if_pos (by rfl)]
            refine wp_append_row _ _ _ 22 (by rfl) 38 ii _ 5 80 Try.underlying22 J1.out J2.out J3.out J4.out rfl (by omega) (.slice (some ⟨b29, 0, none⟩) 0 0) 0 ([]) (by rfl) (H3.out.row 0 rfl) aF ds.length cF (ds.flatMap NodeV.cells) (by rfl) (nrow5 (H3.out.row 4 rfl)) HONE.out (by unfold maxLen; omega) (by omega) ?_
            intro v' wq4 hown4 hgrow4 hat4
            simp only [Nat.zero_add, List.nil_append] at hown4
            have M4 := H3.out.grow 0 rfl hgrow4 hown4 hat4
            obtain ⟨a32, c32, rfl, _⟩ := M4.val 0 rfl
            have H4 := Tre.hid M4
            clear M4 hown4 hgrow4 hat4
            (try dsimp only)
            refine hK.out _ _ ?_ (fun hH83 => ?_)
            · exact ⟨(H4.out.two 3 rfl).1, (H4.out.two 3 rfl).2, (H4.out.two 6 rfl).2⟩
            clear hK K hH82
            try simp only [Act.put, List.setIfInBounds_toArray, List.set_cons_zero, List.set_cons_succ]
            refine lOne 11 (by kernel_rfl) (LStep.op (fun K hK => ?_))
            go_simp
            have H5 := Tre.hid (H4.out.allocRow #[.int .i64 2, .string { data := #[42] }, .slice (some ⟨b37, 0, none⟩) 2 2, .slice none 0 0, .bool false] 38 5 1 (by unfold maxLen; omega) rfl)
            generalize hb : wq4.heap.size = b39 at H5 ⊢
            generalize hw : wq4.alloc (.cells #[.int .i64 2, .string { data := #[42] }, .slice (some ⟨b37, 0, none⟩) 2 2, .slice none 0 0, .bool false] 38) = wq5 at H5 ⊢
            clear hb hw
            refine hK.out _ _ ?_ (fun hH84 => ?_)
            · exact ⟨(H5.out.two 4 rfl).1, (H5.out.two 4 rfl).2, (H5.out.two 7 rfl).2⟩
            clear hK K hH83
            try simp only [Act.put, List.setIfInBounds_toArray, List.set_cons_zero, List.set_cons_succ]
            refine lOne 12 (by kernel_rfl) (LFall.op (by kernel_rfl) (fun K hK => ?_))
            simp only [List.getElem?_toArray, List.getElem?_cons_succ, List.getElem?_cons_zero]
            rw [if_pos (by rfl)]
            refine wp_append_row _ _ _ 22 (by rfl) 38 ii _ 5 80 Try.underlying22 J1.out J2.out J3.out J4.out rfl (by omega) (.slice a32 ds.length c32) ds.length (ds.flatMap NodeV.cells) (by rfl) (H5.out.row 1 rfl) (some ⟨b39, 0, none⟩) 1 1 [.int .i64 2, .string { data := #[42] }, .slice (some ⟨b37, 0, none⟩) 2 2, .slice none 0 0, .bool false] (by rfl) ⟨rfl, fun j u hj => ⟨_, 0, rfl, by rw [Nat.zero_add]; exact H5.out.cellAt 0 rfl j hj⟩⟩ (by simp [Value.oneCell']) (by unfold maxLen; omega) (by omega) ?_
            intro v' wq6 hown4 hgrow4 hat4
            have M4 := H5.out.grow 1 rfl hgrow4 hown4 hat4
            obtain ⟨a40, c40, rfl, _⟩ := M4.val 1 rfl
            have H6 := Tre.hid M4
            clear M4 hown4 hgrow4 hat4
            (try dsimp only)
            refine hK.out _ _ ?_
            clear hK K hH84
            try simp only [Act.put, List.setIfInBounds_toArray, List.set_cons_zero, List.set_cons_succ]
            refine lPure (i := 13) (some 41) (v := ?_) (by rfl) (by kernel_rfl) (by kernel_rfl) (by kernel_rfl) (by kernel_rfl) (fun _ _ _ h => h) (by rfl) ?_ (keep_fell (by kernel_rfl)) ?_
            rotate_left
            · intro w; simp only [List.getElem?_toArray, List.getElem?_cons_succ, List.getElem?_cons_zero, Option.map_some, Option.some.injEq]; (first | (go_simp; done) | (go_simp; with_reducible rfl))
            try simp only [Act.put, List.setIfInBounds_toArray, List.set_cons_zero, List.set_cons_succ]
            refine lOne 15 (by kernel_rfl) (LFall.op (by kernel_rfl) (fun K hK => ?_))
            have z0 := H6.out.free 3 rfl 0
            have z1 := H6.out.free 3 rfl 1
            obtain ⟨y0, y1⟩ := H6.out.two 3 rfl
            have H7 := Tre.hid ((H6.out.setCell 3 rfl 0 (.slice a40 (ds.length + 1) c40)).setCell 3 rfl 1 (.int .i64 (ds.length : Int)))
            go_simp
            refine hK.out _ _ ?_
            clear hK K
            try simp only [Act.put, List.setIfInBounds_toArray, List.set_cons_zero, List.set_cons_succ]
            refine lDone (by kernel_rfl) ?_
            go_wp2_with fail
            go_meet
            exact ⟨b8, a40, c40, b37, rfl, (((((((((H7.out.front 0 rfl).front 7 rfl).front 7 rfl).front 7 rfl).front 7 rfl).front 6 rfl).front 6 rfl).front 7 rfl)).sub (by simp)⟩
          · -- 39
            go_simp
            have H4 := Tre.hid (H3.out.allocRow #[.int .i64 2, .string { data := #[42] }, .slice (some ⟨b37, 0, none⟩) 2 2, .slice none 0 0, .bool false] 38 5 1 (by unfold maxLen; omega) rfl)
            generalize hb : wq3.heap.size = b39 at H4 ⊢
            generalize hw : wq3.alloc (.cells #[.int .i64 2, .string { data := #[42] }, .slice (some ⟨b37, 0, none⟩) 2 2, .slice none 0 0, .bool false] 38) = wq4 at H4 ⊢
            clear hb hw
            refine hK.out _ _ ?_ (fun hH85 => ?_)
            · exact ⟨(H4.out.two 4 rfl).1, (H4.out.two 4 rfl).2, (H4.out.two 7 rfl).2⟩
            clear hK K hH82
            try simp only [Act.put, List.setIfInBounds_toArray, List.set_cons_zero, List.set_cons_succ]
            refine lOne 4 (by kernel_rfl) (LStep.op (fun K hK => ?_))
            simp only [List.getElem?_toArray, List.getElem?_cons_succ, List.getElem?_cons_zero]
            rw [if_pos (by rfl)]
            refine wp_append_row _ _ _ 22 (by rfl) 38 ii _ 5 80 Try.underlying22 J1.out J2.out J3.out J4.out rfl (by omega) (.slice (some ⟨b29, 0, none⟩) 0 0) 0 ([]) (by rfl) (H4.out.row 1 rfl) aF ds.length cF (ds.flatMap NodeV.cells) (by rfl) (nrow5 (H4.out.row 5 rfl)) HONE.out (by unfold maxLen; omega) (by omega) ?_
            intro v' wq5 hown4 hgrow4 hat4
            simp only [Nat.zero_add, List.nil_append] at hown4
            have M4 := H4.out.grow 1 rfl hgrow4 hown4 hat4
            obtain ⟨a32, c32, rfl, _⟩ := M4.val 1 rfl
            have H5 := Tre.hid M4
            clear M4 hown4 hgrow4 hat4
            (try dsimp only)
            refine hK.out _ _ ?_ (fun hH86 => ?_)
            · exact ⟨(H5.out.two 4 rfl).1, (H5.out.two 4 rfl).2, (H5.out.two 7 rfl).2⟩
            clear hK K hH85
            try simp only [Act.put, List.setIfInBounds_toArray, List.set_cons_zero, List.set_cons_succ]
            refine lOne 12 (by kernel_rfl) (LFall.op (by kernel_rfl) (fun K hK => ?_))
            simp only [List.getElem?_toArray, List.getElem?_cons_succ, List.getElem?_cons_zero]
            rw [if_pos (by rfl)]
            refine wp_append_row _ _ _ 22 (by rfl) 38 ii _ 5 80 Try.underlying22 J1.out J2.out J3.out J4.out rfl (by omega) (.slice a32 ds.length c32) ds.length (ds.flatMap NodeV.cells) (by rfl) (H5.out.row 1 rfl) (some ⟨b39, 0, none⟩) 1 1 [.int .i64 2, .string { data := #[42] }, .slice (some ⟨b37, 0, none⟩) 2 2, .slice none 0 0, .bool false] (by rfl) ⟨rfl, fun j u hj => ⟨_, 0, rfl, by rw [Nat.zero_add]; exact H5.out.cellAt 0 rfl j hj⟩⟩ (by simp [Value.oneCell']) (by unfold maxLen; omega) (by omega) ?_
            intro v' wq6 hown4 hgrow4 hat4
            have M4 := H5.out.grow 1 rfl hgrow4 hown4 hat4
            obtain ⟨a40, c40, rfl, _⟩ := M4.val 1 rfl
            have H6 := Tre.hid M4
            clear M4 hown4 hgrow4 hat4
            (try dsimp only)
            refine hK.out _ _ ?_
            clear hK K hH86
            try simp only [Act.put, List.setIfInBounds_toArray, List.set_cons_zero, List.set_cons_succ]
            refine lPure (i := 13) (some 41) (v := ?_) (by rfl) (by kernel_rfl) (by kernel_rfl) (by kernel_rfl) (by kernel_rfl) (fun _ _ _ h => h) (by rfl) ?_ (keep_fell (by kernel_rfl)) ?_
            rotate_left
            · intro w; simp only [List.getElem?_toArray, List.getElem?_cons_succ, List.getElem?_cons_zero, Option.map_some, Option.some.injEq]; (first | (go_simp; done) | (go_simp; with_reducible rfl))
            try simp only [Act.put, List.setIfInBounds_toArray, List.set_cons_zero, List.set_cons_succ]
            refine lOne 15 (by kernel_rfl) (LFall.op (by kernel_rfl) (fun K hK => ?_))
            have z0 := H6.out.free 3 rfl 0
            have z1 := H6.out.free 3 rfl 1
            obtain ⟨y0, y1⟩ := H6.out.two 3 rfl
            have H7 := Tre.hid ((H6.out.setCell 3 rfl 0 (.slice a40 (ds.length + 1) c40)).setCell 3 rfl 1 (.int .i64 (ds.length : Int)))
            go_simp
            refine hK.out _ _ ?_
            clear hK K
            try simp only [Act.put, List.setIfInBounds_toArray, List.set_cons_zero, List.set_cons_succ]
            refine lDone (by kernel_rfl) ?_
            go_wp2_with fail
            go_meet
            exact ⟨b8, a40, c40, b37, rfl, (((((((((H7.out.front 0 rfl).front 7 rfl).front 7 rfl).front 7 rfl).front 7 rfl).front 6 rfl).front 6 rfl).front 7 rfl)).sub (by simp)⟩
        · -- 39
          go_simp
          have H3 := Tre.hid (H2.out.allocRow #[.int .i64 2, .string { data := #[42] }, .slice (some ⟨b37, 0, none⟩) 2 2, .slice none 0 0, .bool false] 38 5 1 (by unfold maxLen; omega) rfl)
          generalize hb : wq2.heap.size = b39 at H3 ⊢
          generalize hw : wq2.alloc (.cells #[.int .i64 2, .string { data := #[42] }, .slice (some ⟨b37, 0, none⟩) 2 2, .slice none 0 0, .bool false] 38) = wq3 at H3 ⊢
          clear hb hw
          refine hK.out _ _ ?_ (fun hH87 => ?_)
          · exact ⟨(H3.out.two 3 rfl).1, (H3.out.two 3 rfl).2, (H3.out.two 6 rfl).2⟩
          clear hK K hH81
          try simp only [Act.put, List.setIfInBounds_toArray, List.set_cons_zero, List.set_cons_succ]
          refine lOne 1 (by kernel_rfl) (LStep.op (fun K hK => ?_))
          go_simp
          have H4 := Tre.hid (H3.out.allocRow #[] 38 5 0 (by unfold maxLen; omega) rfl)
          generalize hb : wq3.heap.size = b29 at H4 ⊢
          generalize hw : wq3.alloc (.cells #[] 38) = wq4 at H4 ⊢
          clear hb hw
          refine hK.out _ _ ?_ (fun hH88 => ?_)
          · exact ⟨(H4.out.two 4 rfl).1, (H4.out.two 4 rfl).2, (H4.out.two 7 rfl).2⟩
          clear hK K hH87
          try simp only [Act.put, List.setIfInBounds_toArray, List.set_cons_zero, List.set_cons_succ]
          refine lOne 4 (by kernel_rfl) (LStep.op (fun K hK => ?_))
          simp only [List.getElem?_toArray, List.getElem?_cons_succ, List.getElem?_cons_zero]
          rw [if_pos (by rfl)]
          refine wp_append_row _ _ _ 22 (by rfl) 38 ii _ 5 80 Try.underlying22 J1.out J2.out J3.out J4.out rfl (by omega) (.slice (some ⟨b29, 0, none⟩) 0 0) 0 ([]) (by rfl) (H4.out.row 0 rfl) aF ds.length cF (ds.flatMap NodeV.cells) (by rfl) (nrow5 (H4.out.row 5 rfl)) HONE.out (by unfold maxLen; omega) (by omega) ?_
          intro v' wq5 hown4 hgrow4 hat4
          simp only [Nat.zero_add, List.nil_append] at hown4
          have M4 := H4.out.grow 0 rfl hgrow4 hown4 hat4
          obtain ⟨a32, c32, rfl, _⟩ := M4.val 0 rfl
          have H5 := Tre.hid M4
          clear M4 hown4 hgrow4 hat4
          (try dsimp only)
          refine hK.out _ _ ?_ (fun hH89 => ?_)
          · exact ⟨(H5.out.two 4 rfl).1, (H5.out.two 4 rfl).2, (H5.out.two 7 rfl).2⟩
          clear hK K hH88
          try simp only [Act.put, List.setIfInBounds_toArray, List.set_cons_zero, List.set_cons_succ]
          refine lOne 12 (by kernel_rfl) (LFall.op (by kernel_rfl) (fun K hK => ?_))
          simp only [List.getElem?_toArray, List.getElem?_cons_succ, List.getElem?_cons_zero]
          rw [if_pos (by rfl)]
          refine wp_append_row _ _ _ 22 (by rfl) 38 ii _ 5 80 Try.underlying22 J1.out J2.out J3.out J4.out rfl (by omega) (.slice a32 ds.length c32) ds.length (ds.flatMap NodeV.cells) (by rfl) (H5.out.row 0 rfl) (some ⟨b39, 0, none⟩) 1 1 [.int .i64 2, .string { data := #[42] }, .slice (some ⟨b37, 0, none⟩) 2 2, .slice none 0 0, .bool false] (by rfl) ⟨rfl, fun j u hj => ⟨_, 0, rfl, by rw [Nat.zero_add]; exact H5.out.cellAt 1 rfl j hj⟩⟩ (by simp [Value.oneCell']) (by unfold maxLen; omega) (by omega) ?_
          intro v' wq6 hown4 hgrow4 hat4
          have M4 := H5.out.grow 0 rfl hgrow4 hown4 hat4
          obtain ⟨a40, c40, rfl, _⟩ := M4.val 0 rfl
          have H6 := Tre.hid M4
          clear M4 hown4 hgrow4 hat4
          (try dsimp only)
          refine hK.out _ _ ?_
          clear hK K hH89
          try simp only [Act.put, List.setIfInBounds_toArray, List.set_cons_zero, List.set_cons_succ]
          refine lPure (i := 13) (some 41) (v := ?_) (by rfl) (by kernel_rfl) (by kernel_rfl) (by kernel_rfl) (by kernel_rfl) (fun _ _ _ h => h) (by rfl) ?_ (keep_fell (by kernel_rfl)) ?_
          rotate_left
          · intro w; simp only [List.getElem?_toArray, List.getElem?_cons_succ, List.getElem?_cons_zero, Option.map_some, Option.some.injEq]; (first | (go_simp; done) | (go_simp; with_reducible rfl))
          try simp only [Act.put, List.setIfInBounds_toArray, List.set_cons_zero, List.set_cons_succ]
          refine lOne 15 (by kernel_rfl) (LFall.op (by kernel_rfl) (fun K hK => ?_))
          have z0 := H6.out.free 3 rfl 0
          have z1 := H6.out.free 3 rfl 1
          obtain ⟨y0, y1⟩ := H6.out.two 3 rfl
          have H7 := Tre.hid ((H6.out.setCell 3 rfl 0 (.slice a40 (ds.length + 1) c40)).setCell 3 rfl 1 (.int .i64 (ds.length : Int)))
          go_simp
          refine hK.out _ _ ?_
          clear hK K
          try simp only [Act.put, List.setIfInBounds_toArray, List.set_cons_zero, List.set_cons_succ]
          refine lDone (by kernel_rfl) ?_
          go_wp2_with fail
          go_meet
          exact ⟨b8, a40, c40, b37, rfl, (((((((((H7.out.front 1 rfl).front 7 rfl).front 7 rfl).front 7 rfl).front 7 rfl).front 6 rfl).front 6 rfl).front 7 rfl)).sub (by simp)⟩
  case rest =>
    obtain ⟨b8, a40, c40, b37, rfl, hM⟩ := hcut
    have HBLEN : Hid (B.ns.length = ds.length + 1) := by show _ = _; rw [HBN.out, List.length_append, HLN.out]; rfl
    have CGN := generic_ok a ca g am cm mn wc (HG.out.below hM.out.below) C0.out (by omega) (HL.out.below hM.out.below) HLM.out (by omega) (HM.out.below hM.out.below)
    have HCGN := Tre.hid CGN
    obtain ⟨g0, g1⟩ := hM.out.two 6 rfl
    clear CGN
    go_wp2_with fail
    refine HCGN.out.mono ?_
    rintro e w6 ⟨vX, rfl, m6⟩
    have M6 := hM.out.call m6
    obtain ⟨aX, cX, rfl, _⟩ := M6.val 0 rfl
    have HN := Tre.hid M6
    have HCB : Hid (∀ W : World, Mem w W [rowR 3 1 (.slice aX (g.genericL mn).length cX) (g.genericL mn).length ((g.genericL mn).map rk), cellsR b8 24 #[.slice a40 (ds.length + 1) c40, .int .i64 (ds.length : Int)], rowR 38 5 (.slice a40 (ds.length + 1) c40) (ds.length + 1) (ds.flatMap NodeV.cells ++ [.int .i64 2, .string { data := #[42] }, .slice (some ⟨b37, 0, none⟩) 2 2, .slice none 0 0, .bool false]), cellsR b37 3 #[.int .i64 g.root, .int .i64 f.root], cellsR b5 24 #[.slice aF ds.length cF, .int .i64 f.root], nodesR (.slice aF ds.length cF) ds, kidsR ds, cellsR w.heap.size 24 #[.slice a g.ns.length ca, .int .i64 g.root]] → Calls Try.prog 14 #[.agg #[.slice a40 (ds.length + 1) c40, .int .i64 (ds.length : Int)]] W fun e w' => ∃ v, e = .returned v ∧ Mem W w' [rowR 3 1 v B.freeL.length (B.freeL.map rk)]) := by
      intro W hR
      have NB : NodesAt W a40 B.ns := by
        have e : B.ns = (ds ++ [starV g.root f.root b37]).map NodeV.n := by rw [HBN.out, List.map_append, HDS.out]; rfl
        rw [e]
        refine nodesAt_of (c := c40) ?_ (fun d hd => ?_)
        · have h := hR.row 2 rfl
          show World.ownsRow _ _ _ _ _ _ _
          rw [List.flatMap_append, List.length_append]
          exact h
        · rcases List.mem_append.1 hd with hd | hd
          · exact kids_val (hR.at_ 6 rfl) d hd
          · simp at hd
            subst hd
            exact starV_val (hR.heap 3 rfl)
      have h := freeF_any a40 c40 B W NB (by omega) (HM.out.below hR.below)
      rw [HBLEN.out, HBR.out, HLN.out] at h
      exact h
    have HCG : Hid (∀ W : World, Mem w W [rowR 3 1 (.slice aX (g.genericL mn).length cX) (g.genericL mn).length ((g.genericL mn).map rk), cellsR b8 24 #[.slice a40 (ds.length + 1) c40, .int .i64 (ds.length : Int)], rowR 38 5 (.slice a40 (ds.length + 1) c40) (ds.length + 1) (ds.flatMap NodeV.cells ++ [.int .i64 2, .string { data := #[42] }, .slice (some ⟨b37, 0, none⟩) 2 2, .slice none 0 0, .bool false]), cellsR b37 3 #[.int .i64 g.root, .int .i64 f.root], cellsR b5 24 #[.slice aF ds.length cF, .int .i64 f.root], nodesR (.slice aF ds.length cF) ds, kidsR ds, cellsR w.heap.size 24 #[.slice a g.ns.length ca, .int .i64 g.root]] → Calls Try.prog 14 #[.agg #[.slice a g.ns.length ca, .int .i64 g.root]] W fun e w' => ∃ v, e = .returned v ∧ Mem W w' [rowR 3 1 v g.freeL.length (g.freeL.map rk)]) := fun W hR => freeF_any a ca g W (HG.out.below hR.below) (by omega) (HM.out.below hR.below)
    clear M6 m6 g0 g1
    go_upto_region 11 with fail
    refine wp_region_keep (S := (fun w' => w'.cell? ⟨b8, 0, none⟩ = some (.slice a40 (ds.length + 1) c40) ∧ w'.cell? ⟨b8, 1, none⟩ = some (.int .i64 (ds.length : Int)) ∧ w'.cell? ⟨w.heap.size, 0, none⟩ = some (.slice a g.ns.length ca) ∧ w'.cell? ⟨w.heap.size, 1, none⟩ = some (.int .i64 g.root))) [] (by kernel_rfl) ?_ (fun hH0 => ?_)
    · exact ⟨(HN.out.drew.two 1 rfl).1, (HN.out.drew.two 1 rfl).2, (HN.out.drew.two 7 rfl).1, (HN.out.drew.two 7 rfl).2⟩
    have H0 := Tre.hid HN.out.drew
    generalize hq : w6.drew = wq0 at H0 hH0 ⊢
    clear hq
    refine lPure (i := 6) (some 54) (v := ?_) (by rfl) (by kernel_rfl) (by kernel_rfl) (by kernel_rfl) (by kernel_rfl) (fun _ _ _ h => h) (by rfl) ?_ (keep_of hH0) ?_
    rotate_left
    · intro w; simp only [List.getElem?_toArray, List.getElem?_cons_succ, List.getElem?_cons_zero, Option.map_some, Option.some.injEq]; (first | (go_simp; done) | (go_simp; with_reducible rfl))
    try simp only [Act.put, List.setIfInBounds_toArray, List.set_cons_zero, List.set_cons_succ]
    refine lPure (i := 7) (some 55) (v := ?_) (by rfl) (by kernel_rfl) (by kernel_rfl) (by kernel_rfl) (by kernel_rfl) (fun _ _ _ h => h) (by rfl) ?_ (keep_of hH0) ?_
    rotate_left
    · intro w; simp only [List.getElem?_toArray, List.getElem?_cons_succ, List.getElem?_cons_zero, Option.map_some, Option.some.injEq]; (first | (go_simp; done) | (go_simp; with_reducible rfl))
    try simp only [Act.put, List.setIfInBounds_toArray, List.set_cons_zero, List.set_cons_succ]
    refine lTake (i := 0) (some 48) (v := ?_) (by rfl) (by kernel_rfl) (by kernel_rfl) (by kernel_rfl) (by kernel_rfl) (by kernel_rfl) (fun _ _ _ h => h) (by rfl) ?_ hH0 ?_
    rotate_left
    · intro w hSw; (try dsimp only at hSw); simp only [List.getElem?_toArray, List.getElem?_cons_zero, Option.map_some, Option.some.injEq]; (first | (go_simp; done) | (go_simp; with_reducible rfl))
    try simp only [Act.put, List.setIfInBounds_toArray, List.set_cons_zero, List.set_cons_succ]
    refine lTake (i := 3) (some 51) (v := ?_) (by rfl) (by kernel_rfl) (by kernel_rfl) (by kernel_rfl) (by kernel_rfl) (by kernel_rfl) (fun _ _ _ h => h) (by rfl) ?_ hH0 ?_
    rotate_left
    · intro w hSw; (try dsimp only at hSw); simp only [List.getElem?_toArray, List.getElem?_cons_succ, List.getElem?_cons_zero, Option.map_some, Option.some.injEq]; (first | (go_simp; done) | (go_simp; with_reducible rfl))
    try simp only [Act.put, List.setIfInBounds_toArray, List.set_cons_zero, List.set_cons_succ]
    refine lOne 1 (by kernel_rfl) (LStep.op (fun K hK => ?_))
    go_simp
    refine (HCB.out wq0 H0.out).mono ?_
    rintro e wq1 ⟨vx0, rfl, m0⟩
    have M := H0.out.call m0
    obtain ⟨ax0, cx0, rfl, _⟩ := M.val 0 rfl
    have H1 : Hid (Mem w wq1 [rowR 3 1 (.slice aX (g.genericL mn).length cX) (g.genericL mn).length ((g.genericL mn).map rk), cellsR b8 24 #[.slice a40 (ds.length + 1) c40, .int .i64 (ds.length : Int)], rowR 38 5 (.slice a40 (ds.length + 1) c40) (ds.length + 1) (ds.flatMap NodeV.cells ++ [.int .i64 2, .string { data := #[42] }, .slice (some ⟨b37, 0, none⟩) 2 2, .slice none 0 0, .bool false]), cellsR b37 3 #[.int .i64 g.root, .int .i64 f.root], cellsR b5 24 #[.slice aF ds.length cF, .int .i64 f.root], nodesR (.slice aF ds.length cF) ds, kidsR ds, cellsR w.heap.size 24 #[.slice a g.ns.length ca, .int .i64 g.root]]) := M.del 0
    clear M m0
    (try dsimp only)
    refine hK.out _ _ ?_ (fun hH1 => ?_)
    · exact ⟨(H1.out.two 1 rfl).1, (H1.out.two 1 rfl).2, (H1.out.two 7 rfl).1, (H1.out.two 7 rfl).2⟩
    clear hK K hH0
    try simp only [Act.put, List.setIfInBounds_toArray, List.set_cons_zero, List.set_cons_succ]
    refine lPure (i := 2) (some 50) (v := ?_) (by rfl) (by kernel_rfl) (by kernel_rfl) (by kernel_rfl) (by kernel_rfl) (fun _ _ _ h => h) (by rfl) ?_ (keep_of hH1) ?_
    rotate_left
    · intro w; simp only [List.getElem?_toArray, List.getElem?_cons_succ, List.getElem?_cons_zero, Option.map_some, Option.some.injEq]; (first | (go_simp; done) | (go_simp; with_reducible rfl))
    try simp only [Act.put, List.setIfInBounds_toArray, List.set_cons_zero, List.set_cons_succ]
    refine lOne 4 (by kernel_rfl) (LStep.op (fun K hK => ?_))
    go_simp
    refine (HCG.out wq1 H1.out).mono ?_
    rintro e wq2 ⟨vx1, rfl, m1⟩
    have M := H1.out.call m1
    obtain ⟨ax1, cx1, rfl, _⟩ := M.val 0 rfl
    have H2 : Hid (Mem w wq2 [rowR 3 1 (.slice aX (g.genericL mn).length cX) (g.genericL mn).length ((g.genericL mn).map rk), cellsR b8 24 #[.slice a40 (ds.length + 1) c40, .int .i64 (ds.length : Int)], rowR 38 5 (.slice a40 (ds.length + 1) c40) (ds.length + 1) (ds.flatMap NodeV.cells ++ [.int .i64 2, .string { data := #[42] }, .slice (some ⟨b37, 0, none⟩) 2 2, .slice none 0 0, .bool false]), cellsR b37 3 #[.int .i64 g.root, .int .i64 f.root], cellsR b5 24 #[.slice aF ds.length cF, .int .i64 f.root], nodesR (.slice aF ds.length cF) ds, kidsR ds, cellsR w.heap.size 24 #[.slice a g.ns.length ca, .int .i64 g.root]]) := M.del 0
    clear M m1
    (try dsimp only)
    refine hK.out _ _ ?_ (fun hH2 => ?_)
    · exact ⟨(H2.out.two 1 rfl).1, (H2.out.two 1 rfl).2, (H2.out.two 7 rfl).1, (H2.out.two 7 rfl).2⟩
    clear hK K hH1
    try simp only [Act.put, List.setIfInBounds_toArray, List.set_cons_zero, List.set_cons_succ]
    refine lPure (i := 5) (some 53) (v := ?_) (by rfl) (by kernel_rfl) (by kernel_rfl) (by kernel_rfl) (by kernel_rfl) (fun _ _ _ h => h) (by rfl) ?_ (keep_of hH2) ?_
    rotate_left
    · intro w; simp only [List.getElem?_toArray, List.getElem?_cons_succ, List.getElem?_cons_zero, Option.map_some, Option.some.injEq]; (first | (go_simp; done) | (go_simp; with_reducible rfl))
    try simp only [Act.put, List.setIfInBounds_toArray, List.set_cons_zero, List.set_cons_succ]
    refine lPure (i := 8) (some 56) (v := ?_) (by rfl) (by kernel_rfl) (by kernel_rfl) (by kernel_rfl) (by kernel_rfl) (fun _ _ _ h => h) (by rfl) ?_ (keep_of hH2) ?_
    rotate_left
    · intro w; simp only [List.getElem?_toArray, List.getElem?_cons_succ, List.getElem?_cons_zero, Option.map_some, Option.some.injEq]; (first | (go_simp; done) | (go_simp; with_reducible rfl))
    try simp only [Act.put, List.setIfInBounds_toArray, List.set_cons_zero, List.set_cons_succ]
    refine lPure (i := 9) (some 57) (v := ?_) (by rfl) (by kernel_rfl) (by kernel_rfl) (by kernel_rfl) (by kernel_rfl) (fun _ _ _ h => h) (by rfl) ?_ (keep_of hH2) ?_
    rotate_left
    · intro w; simp only [List.getElem?_toArray, List.getElem?_cons_succ, List.getElem?_cons_zero, Option.map_some, Option.some.injEq]; (first | (go_simp; done) | (go_simp; with_reducible rfl))
    try simp only [Act.put, List.setIfInBounds_toArray, List.set_cons_zero, List.set_cons_succ]
    refine lPure (i := 10) (some 4) (v := ?_) (by rfl) (by kernel_rfl) (by kernel_rfl) (by kernel_rfl) (by kernel_rfl) (fun _ _ _ h => h) (by rfl) ?_ (keep_of hH2) ?_
    rotate_left
    · intro w; simp only [List.getElem?_toArray, List.getElem?_cons_succ, List.getElem?_cons_zero, Option.map_some, Option.some.injEq]; (first | (go_simp; done) | (go_simp; with_reducible rfl))
    try simp only [Act.put, List.setIfInBounds_toArray, List.set_cons_zero, List.set_cons_succ]
    refine lDone (by kernel_rfl) ?_
    clear hH2
    go_wp2_with fail
    go_ret
    refine ⟨congrArg Ending.returned (congrArg Value.bool ?_), H2.out.below⟩
    exact sum_eq HBL.out (by omega)
theorem pairsLaw (a : Option Addr) (ca : Nat) (g : Tre.Graph) (am : Option Addr) (cm : Nat) (mono : List Int) (w : World) (hg : NodesAt w a g.ns) (wg : g.weight ≤ 2097152) (hl : IntsAt w am mono) (hm : MaxAt w) :
    Calls Try.prog 4 #[.agg #[.slice a g.ns.length ca, .int .i64 g.root], .slice am mono.length cm] w fun e w' => e = .returned (.bool true) ∧ Below w.heap.size w w' := by
  by_cases hc : g.monoC mono = 0
  · obtain ⟨c0, e, hlt⟩ := mono_of hc
    rw [e] at hl ⊢
    rw [List.length_map]
    exact pairsLaw_ok a ca g am cm _ w hg wg hl hm c0 hlt
  · exact pairsLaw_no a ca g am cm mono w hg wg hl hm hc
end Go.Proofs.Ytlkfhbmjemjohaa.gr
