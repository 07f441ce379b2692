/- GenSame: the walk. -/
import Derived.Test.YtlkfhbmjemjohaaGens
import Derived.Test.YtlkfhbmjemjohaaSame
namespace Go.Proofs.Ytlkfhbmjemjohaa.gr
open Go.RowKit Go.Shelf Go.Maps Go.Tre lex
theorem ints_none (w : World) : IntsAt w none (([] : List Nat).map fun k : Nat => (k : Int)) := row_none _ _

theorem same_len {n f m : Nat} {l l' : List Nat} [Decidable (l' = [])] (h1 : f = n) (h2 : f = m + l.length) (h3 : l = [] ↔ l' = []) :
    (((n : Int) == (m : Int)) == decide (l' = [])) = true := by
  by_cases h : l = []
  · have h' := h3.mp h
    have e : n = m := by rw [h] at h2; simp at h2; omega
    rw [e, decide_eq_true h']; simp
  · have h' : ¬ l' = [] := fun x => h (h3.mpr x)
    have hl : l.length ≠ 0 := fun x => h (List.length_eq_zero_iff.mp x)
    have e : ¬ (n : Int) = (m : Int) := by omega
    rw [decide_eq_false h', beq_eq_false_iff_ne.mpr e]; rfl

set_option maxRecDepth 100000 in
set_option maxHeartbeats 8000000 in
theorem genSameLaw (a : Option Addr) (ca : Nat) (g : Tre.Graph) (w : World) (hg : NodesAt w a g.ns) (wg : g.weight ≤ 1048576) (hm : MaxAt w) :
    Calls Try.prog 5 #[.agg #[.slice a g.ns.length ca, .int .i64 g.root]] w fun e w' => e = .returned (.bool true) ∧ Below w.heap.size w w' := by
  have M := (Mem.nil w).allocR #[.slice a g.ns.length ca, .int .i64 g.root] 24
  have HM := Tre.hid hm
  have HG := Tre.hid hg
  have HM0 := Tre.hid M
  have CGD := fun W (h : Below w.heap.size w W) => good_any a ca g none 0 0 300 W (by omega) (hg.below h)
  have HGD := Tre.hid CGD
  clear hg hm M CGD
  go_enter Try.func5, Try.ntmps5
  go_wp2_with fail
  refine (alive13 _ (HM.out.below HM0.out.below)).mono ?_
  rintro e w1 ⟨rfl, b1⟩
  have M1 := HM0.out.quiet b1
  obtain ⟨g0, g1⟩ := M1.two 0 rfl
  have HM1 := Tre.hid M1
  clear M1 b1
  go_wp2_with fail
  cases hgd : (decide ((g.great : Int) ≤ 300) && decide (((0 : Nat) : Int) ≤ 60))
  · have CGD := HGD.out w1 HM1.out.below
    rw [hgd] at CGD
    refine CGD.mono ?_
    rintro e w2 ⟨rfl, b2⟩
    have HM2 := Tre.hid (HM1.out.quiet b2)
    clear b2 CGD hgd
    go_wp2_with fail
    go_ret
    exact ⟨rfl, HM2.out.below⟩
  have CGD := HGD.out w1 HM1.out.below
  rw [hgd] at CGD
  rw [Bool.and_eq_true, decide_eq_true_eq, decide_eq_true_eq] at hgd
  have hgl : g.ns.length ≤ 300 := by have := g.great_len; omega
  clear hgd
  refine CGD.mono ?_
  rintro e w2 ⟨rfl, b2⟩
  clear g0 g1 CGD
  have M2 := HM1.out.quiet b2
  obtain ⟨g0, g1⟩ := M2.two 0 rfl
  have HM2 := Tre.hid M2
  clear M2 b2
  go_wp2_with fail
  refine (check_any a ca g _ (HG.out.below HM2.out.below) (by omega) (HM.out.below HM2.out.below)).mono ?_
  rintro e w3 ⟨rfl, b3⟩
  clear g0 g1
  have M3 := HM2.out.quiet b3
  obtain ⟨g0, g1⟩ := M3.two 0 rfl
  have HM3 := Tre.hid M3
  clear M3 b3
  by_cases t3 : g.checkC ≠ 0
  · have t := not_ok t3
    go_wp2_with fail
    go_ret
    exact ⟨rfl, HM3.out.below⟩
  have cg : g.checkC = 0 := by omega
  have C0 := Tre.hid cg
  have OG := Tre.hid (Graph.ok_of cg)
  have u3 : (g.checkC != 0) = false := by rw [cg]; rfl
  have hsz : g.ns.length + (g.copiesL []).length ≤ 1048576 := by have := copies_len_le g []; omega
  have CF := fresh_ok a ca g none 0 [] w3 (HG.out.below HM3.out.below) cg (by omega) (ints_none _) (by simp) (by simp) (HM.out.below HM3.out.below) hsz
  have HCF := Tre.hid CF
  have HCK := Tre.hid (Graph.fresh_check (mono := []) cg hsz)
  have HSM := Tre.hid (fresh_same cg hsz)
  have HFF := Tre.hid (fresh_free cg hsz)
  have hfw := fresh_weight g []
  have HCN := Tre.hid (copies_nil cg)
  have HFL := Tre.hid (Graph.fresh_len (g := g) (mono := []))
  have HFR := Tre.hid (fresh_root_same cg)
  have HCR := Tre.hid (copies_root cg)
  clear cg t3 CF hsz
  generalize hf : g.freshG [] = f at *
  have HF := Tre.hid hf
  clear hf
  go_wp2_with fail
  refine HCF.out.mono ?_
  rintro e w5 ⟨vF, ds, rfl, hds, m5⟩
  have M5 := HM3.out.call m5
  obtain ⟨aF, cF, rfl, _⟩ := M5.val 0 rfl
  have HDS := Tre.hid hds
  have HLN : Hid (f.ns.length = ds.length) := by show _ = _; rw [← hds, List.length_map]
  have M6 := M5.allocR #[.slice aF ds.length cF, .int .i64 f.root] 24
  obtain ⟨b3, hb3⟩ : ∃ b3 : Nat, w5.heap.size = b3 := ⟨_, rfl⟩
  rw [hb3] at M6
  obtain ⟨w6, hw6⟩ : ∃ w6 : World, w5.alloc (.cells #[.slice aF ds.length cF, .int .i64 f.root] 24) = w6 := ⟨_, rfl⟩
  rw [hw6] at M6
  clear g0 g1
  obtain ⟨g0, g1⟩ := M6.two 3 rfl
  obtain ⟨f0, f1⟩ := M6.two 0 rfl
  have NF := nodes_read (M6.at_ 1 rfl) (M6.at_ 2 rfl)
  rw [hds] at NF
  have CS := same_any aF a cF ca f g w6 NF (HG.out.below M6.below) (by omega) (by omega) (HM.out.below M6.below)
  rw [sameB_true HSM.out, HLN.out] at CS
  have HCS := Tre.hid CS
  have HM6 := Tre.hid M6
  clear m5 M5 M6 hds NF CS
  go_wp2_with fail
  clear hb3 hw6
  refine HCS.out.mono ?_
  rintro e w7 ⟨rfl, b7q⟩
  have M7 := HM6.out.quiet b7q
  clear g0 g1 f0 f1
  obtain ⟨g0, g1⟩ := M7.two 3 rfl
  obtain ⟨f0, f1⟩ := M7.two 0 rfl
  have NF := nodes_read (M7.at_ 1 rfl) (M7.at_ 2 rfl)
  rw [HDS.out] at NF
  have CR := freeF_any aF cF f w7 NF (by omega) (HM.out.below M7.below)
  rw [HLN.out] at CR
  have HCR2 := Tre.hid CR
  have HM7 := Tre.hid M7
  have hfl : f.freeL.length ≤ 2097152 := by have h1 := f.reach_len; have h2 : f.freeL.length ≤ f.reachL.length := List.length_filter_le ..; omega
  clear b7q M7 NF CR
  go_wp2_with fail
  refine HCR2.out.mono ?_
  rintro e w8 ⟨vL, rfl, m8⟩
  have M8 := HM7.out.call m8
  obtain ⟨aL, cL, rfl, _⟩ := M8.val 0 rfl
  have HM8 := Tre.hid M8
  clear m8 M8 g0 g1 f0 f1
  go_wp2_with fail
  go_loopw [35] (fun v35 wr => ∃ k : Nat, k ≤ f.freeL.length ∧ v35 = .int .i64 k ∧ Hid (Mem w wr [rowR 3 1 (.slice aL f.freeL.length cL) f.freeL.length (f.freeL.map rk), cellsR b3 24 #[.slice aF ds.length cF, .int .i64 f.root], nodesR (.slice aF ds.length cF) ds, kidsR ds, cellsR w.heap.size 24 #[.slice a g.ns.length ca, .int .i64 g.root]]))
    (fun v35 _ => f.freeL.length - (intOf v35).toNat)
  case atStart => exact ⟨0, Nat.zero_le _, rfl, HM8.out⟩
  case round =>
    obtain ⟨k, hk, rfl, hR⟩ := hrel
    obtain ⟨g0, g1⟩ := hR.out.two 4 rfl
    by_cases hlt : k < f.freeL.length
    · obtain ⟨gl, rfl, _, _, hcl'⟩ := hR.out.getRow 0 rfl k (u := rk f.freeL[k]) (by rw [List.getElem?_map, List.getElem?_eq_getElem hlt]; rfl)
      have hge := HFF.out _ (List.getElem_mem hlt)
      generalize f.freeL[k] = x at *
      have hcl2 : wr.cell? ⟨gl, k, none⟩ = some (.int .i64 (x : Int)) := hcl'
      have i3 : ¬ ((x : Int) < (g.ns.length : Int)) := by omega
      clear hcl'
      go_wp2_with fail
      go_roundw
      case rel => exact ⟨k + 1, by omega, by go_num, hR.out⟩
      case measure => simp [intOf]; omega
    · have MB := hR.out.allocRow #[.int .i64 g.root] 3 1 1 (by unfold maxLen; omega) rfl
      have R1 : Hid (g.root = ((g.root.toNat : Nat) : Int)) := by have := OG.out.root0; show _ = _; omega
      have II : IntsAt (wr.alloc (.cells #[.int .i64 g.root] 3)) (some ⟨wr.heap.size, 0, none⟩) ([g.root.toNat].map fun k : Nat => (k : Int)) := by
        obtain ⟨_, _, e, _, r⟩ := row_read (MB.row 0 rfl)
        cases e
        rw [show ([g.root.toNat].map fun k : Nat => (k : Int)) = [g.root] by simp only [List.map_cons, List.map_nil, ← R1.out]]
        exact r
      have CH := fresh_ok a ca g (some ⟨wr.heap.size, 0, none⟩) 1 [g.root.toNat] _ (HG.out.below MB.below) C0.out (by omega) II (fun m hm => by simp at hm; rw [hm]; exact OG.out.root1) (by simp) (HM.out.below MB.below) (by rw [HCR.out]; simp; omega)
      rw [HFR.out] at CH
      have HCH := Tre.hid CH
      have HMB := Tre.hid MB
      clear CH MB II
      go_wp2_with fail
      refine HCH.out.mono ?_
      rintro e w8 ⟨vH, dh, rfl, hdh, m8⟩
      have M8 := HMB.out.call m8
      obtain ⟨aH, cH, rfl, _⟩ := M8.val 0 rfl
      have HDH := Tre.hid hdh
      have HLH : Hid (dh.length = g.ns.length) := by show _ = _; rw [← hdh, List.length_map]
      have M9 := M8.allocR #[.slice aH dh.length cH, .int .i64 g.root] 24
      obtain ⟨b7, hb7⟩ : ∃ b7 : Nat, w8.heap.size = b7 := ⟨_, rfl⟩
      rw [hb7] at M9
      obtain ⟨w9, hw9⟩ : ∃ w9 : World, w8.alloc (.cells #[.slice aH dh.length cH, .int .i64 g.root] 24) = w9 := ⟨_, rfl⟩
      rw [hw9] at M9
      have HM9 := Tre.hid ((M9.del 3).del 3)
      clear m8 M8 M9 hdh g0 g1
      go_upto_region 15 with fail
      clear hb7 hw9
      refine wp_region_keep (S := (fun w' => w'.cell? ⟨w.heap.size, 0, none⟩ = some (.slice a g.ns.length ca) ∧ w'.cell? ⟨w.heap.size, 1, none⟩ = some (.int .i64 g.root) ∧ w'.cell? ⟨b7, 0, none⟩ = some (.slice aH dh.length cH) ∧ w'.cell? ⟨b7, 1, none⟩ = some (.int .i64 g.root) ∧ w'.cell? ⟨b3, 0, none⟩ = some (.slice aF ds.length cF))) [] (by kernel_rfl) ?_ (fun hH0 => ?_)
      · exact ⟨(HM9.out.drew.two 6 rfl).1, (HM9.out.drew.two 6 rfl).2, (HM9.out.drew.two 0 rfl).1, (HM9.out.drew.two 0 rfl).2, (HM9.out.drew.two 3 rfl).1⟩
      have H0 := Tre.hid HM9.out.drew
      generalize hq : w9.drew = wq0 at H0 hH0 ⊢
      clear hq
      refine lPure (i := 0) (some 53) (v := ?_) (by rfl) (by kernel_rfl) (by kernel_rfl) (by kernel_rfl) (by kernel_rfl) (fun _ _ _ h => h) (by rfl) ?_ (keep_of hH0) ?_
      rotate_left
      · intro w; simp only [List.getElem?_toArray, List.getElem?_cons_zero, Option.map_some, Option.some.injEq]; (first | (go_simp; done) | (go_simp; with_reducible rfl))
      try simp only [Act.put, List.setIfInBounds_toArray, List.set_cons_zero, List.set_cons_succ]
      refine lPure (i := 1) (some 54) (v := ?_) (by rfl) (by kernel_rfl) (by kernel_rfl) (by kernel_rfl) (by kernel_rfl) (fun _ _ _ h => h) (by rfl) ?_ (keep_of hH0) ?_
      rotate_left
      · intro w; simp only [List.getElem?_toArray, List.getElem?_cons_succ, List.getElem?_cons_zero, Option.map_some, Option.some.injEq]; (first | (go_simp; done) | (go_simp; with_reducible rfl))
      try simp only [Act.put, List.setIfInBounds_toArray, List.set_cons_zero, List.set_cons_succ]
      refine lPure (i := 2) (some 55) (v := ?_) (by rfl) (by kernel_rfl) (by kernel_rfl) (by kernel_rfl) (by kernel_rfl) (fun _ _ _ h => h) (by rfl) ?_ (keep_of hH0) ?_
      rotate_left
      · intro w; simp only [List.getElem?_toArray, List.getElem?_cons_succ, List.getElem?_cons_zero, Option.map_some, Option.some.injEq]; (first | (go_simp; done) | (go_simp; with_reducible rfl))
      try simp only [Act.put, List.setIfInBounds_toArray, List.set_cons_zero, List.set_cons_succ]
      refine lTake (i := 3) (some 56) (v := ?_) (by rfl) (by kernel_rfl) (by kernel_rfl) (by kernel_rfl) (by kernel_rfl) (by kernel_rfl) (fun _ _ _ h => h) (by rfl) ?_ hH0 ?_
      rotate_left
      · intro w hSw; (try dsimp only at hSw); simp only [List.getElem?_toArray, List.getElem?_cons_succ, List.getElem?_cons_zero, Option.map_some, Option.some.injEq]; (first | (go_simp; done) | (go_simp; with_reducible rfl))
      try simp only [Act.put, List.setIfInBounds_toArray, List.set_cons_zero, List.set_cons_succ]
      refine lTake (i := 4) (some 57) (v := ?_) (by rfl) (by kernel_rfl) (by kernel_rfl) (by kernel_rfl) (by kernel_rfl) (by kernel_rfl) (fun _ _ _ h => h) (by rfl) ?_ hH0 ?_
      rotate_left
      · intro w hSw; (try dsimp only at hSw); simp only [List.getElem?_toArray, List.getElem?_cons_succ, List.getElem?_cons_zero, Option.map_some, Option.some.injEq]; (first | (go_simp; done) | (go_simp; with_reducible rfl))
      try simp only [Act.put, List.setIfInBounds_toArray, List.set_cons_zero, List.set_cons_succ]
      refine lOne 5 (by kernel_rfl) (LStep.op (fun K hK => ?_))
      go_simp
      have NHh := nodes_read (H0.out.at_ 1 rfl) (H0.out.at_ 2 rfl)
      rw [HDH.out] at NHh
      have CE := refEqual aH a cH ca g g wq0 NHh (HG.out.below H0.out.below) (by omega) (by omega)
      simp only [decide_true] at CE
      have CE2 : Calls Try.prog 16 #[.agg #[.slice aH dh.length cH, .int .i64 g.root], .agg #[.slice a g.ns.length ca, .int .i64 g.root]] wq0 fun e w' => e = .returned (.bool true) ∧ Below wq0.heap.size wq0 w' := by rw [HLH.out]; exact CE
      refine CE2.mono ?_
      rintro e wq1 ⟨rfl, bq⟩
      have H1 := Tre.hid (H0.out.quiet bq)
      clear bq CE CE2 NHh
      (try dsimp only)
      refine hK.out _ _ ?_ (fun hH1 => ?_)
      · exact ⟨(H1.out.two 6 rfl).1, (H1.out.two 6 rfl).2, (H1.out.two 0 rfl).1, (H1.out.two 0 rfl).2, (H1.out.two 3 rfl).1⟩
      clear hK K hH0
      try simp only [Act.put, List.setIfInBounds_toArray, List.set_cons_zero, List.set_cons_succ]
      refine lPure (i := 6) (some 59) (v := ?_) (by rfl) (by kernel_rfl) (by kernel_rfl) (by kernel_rfl) (by kernel_rfl) (fun _ _ _ h => h) (by rfl) ?_ (keep_of hH1) ?_
      rotate_left
      · intro w; simp only [List.getElem?_toArray, List.getElem?_cons_succ, List.getElem?_cons_zero, Option.map_some, Option.some.injEq]; (first | (go_simp; done) | (go_simp; with_reducible rfl))
      try simp only [Act.put, List.setIfInBounds_toArray, List.set_cons_zero, List.set_cons_succ]
      refine lPure (i := 7) (some 60) (v := ?_) (by rfl) (by kernel_rfl) (by kernel_rfl) (by kernel_rfl) (by kernel_rfl) (fun _ _ _ h => h) (by rfl) ?_ (keep_of hH1) ?_
      rotate_left
      · intro w; simp only [List.getElem?_toArray, List.getElem?_cons_succ, List.getElem?_cons_zero, Option.map_some, Option.some.injEq]; (first | (go_simp; done) | (go_simp; with_reducible rfl))
      try simp only [Act.put, List.setIfInBounds_toArray, List.set_cons_zero, List.set_cons_succ]
      refine lPure (i := 8) (some 61) (v := ?_) (by rfl) (by kernel_rfl) (by kernel_rfl) (by kernel_rfl) (by kernel_rfl) (fun _ _ _ h => h) (by rfl) ?_ (keep_of hH1) ?_
      rotate_left
      · intro w; simp only [List.getElem?_toArray, List.getElem?_cons_succ, List.getElem?_cons_zero, Option.map_some, Option.some.injEq]; (first | (go_simp; done) | (go_simp; with_reducible rfl))
      try simp only [Act.put, List.setIfInBounds_toArray, List.set_cons_zero, List.set_cons_succ]
      refine lPure (i := 11) (some 64) (v := ?_) (by rfl) (by kernel_rfl) (by kernel_rfl) (by kernel_rfl) (by kernel_rfl) (fun _ _ _ h => h) (by rfl) ?_ (keep_of hH1) ?_
      rotate_left
      · intro w; simp only [List.getElem?_toArray, List.getElem?_cons_succ, List.getElem?_cons_zero, Option.map_some, Option.some.injEq]; (first | (go_simp; done) | (go_simp; with_reducible rfl))
      try simp only [Act.put, List.setIfInBounds_toArray, List.set_cons_zero, List.set_cons_succ]
      refine lTake (i := 9) (some 62) (v := ?_) (by rfl) (by kernel_rfl) (by kernel_rfl) (by kernel_rfl) (by kernel_rfl) (by kernel_rfl) (fun _ _ _ h => h) (by rfl) ?_ hH1 ?_
      rotate_left
      · intro w hSw; (try dsimp only at hSw); simp only [List.getElem?_toArray, List.getElem?_cons_succ, List.getElem?_cons_zero, Option.map_some, Option.some.injEq]; (first | (go_simp; done) | (go_simp; with_reducible rfl))
      try simp only [Act.put, List.setIfInBounds_toArray, List.set_cons_zero, List.set_cons_succ]
      refine lPure (i := 10) (some 63) (v := ?_) (by rfl) (by kernel_rfl) (by kernel_rfl) (by kernel_rfl) (by kernel_rfl) (fun _ _ _ h => h) (by rfl) ?_ (keep_of hH1) ?_
      rotate_left
      · intro w; simp only [List.getElem?_toArray, List.getElem?_cons_succ, List.getElem?_cons_zero, Option.map_some, Option.some.injEq]; (first | (go_simp; done) | (go_simp; with_reducible rfl))
      try simp only [Act.put, List.setIfInBounds_toArray, List.set_cons_zero, List.set_cons_succ]
      refine lTake (i := 12) (some 65) (v := ?_) (by rfl) (by kernel_rfl) (by kernel_rfl) (by kernel_rfl) (by kernel_rfl) (by kernel_rfl) (fun _ _ _ h => h) (by rfl) ?_ hH1 ?_
      rotate_left
      · intro w hSw; (try dsimp only at hSw); simp only [List.getElem?_toArray, List.getElem?_cons_succ, List.getElem?_cons_zero, Option.map_some, Option.some.injEq]; (first | (go_simp; done) | (go_simp; with_reducible rfl))
      try simp only [Act.put, List.setIfInBounds_toArray, List.set_cons_zero, List.set_cons_succ]
      refine lPure (i := 13) (some 66) (v := ?_) (by rfl) (by kernel_rfl) (by kernel_rfl) (by kernel_rfl) (by kernel_rfl) (fun _ _ _ h => h) (by rfl) ?_ (keep_of hH1) ?_
      rotate_left
      · intro w; simp only [List.getElem?_toArray, List.getElem?_cons_succ, List.getElem?_cons_zero, Option.map_some, Option.some.injEq]; (first | (go_simp; done) | (go_simp; with_reducible rfl))
      try simp only [Act.put, List.setIfInBounds_toArray, List.set_cons_zero, List.set_cons_succ]
      refine lPure (i := 14) (some 67) (v := ?_) (by rfl) (by kernel_rfl) (by kernel_rfl) (by kernel_rfl) (by kernel_rfl) (fun _ _ _ h => h) (by rfl) ?_ (keep_of hH1) ?_
      rotate_left
      · intro w; simp only [List.getElem?_toArray, List.getElem?_cons_succ, List.getElem?_cons_zero, Option.map_some, Option.some.injEq]; (first | (go_simp; done) | (go_simp; with_reducible rfl))
      try simp only [Act.put, List.setIfInBounds_toArray, List.set_cons_zero, List.set_cons_succ]
      refine lTake (i := 15) (some 68) (v := ?_) (by rfl) (by kernel_rfl) (by kernel_rfl) (by kernel_rfl) (by kernel_rfl) (by kernel_rfl) (fun _ _ _ h => h) (by rfl) ?_ hH1 ?_
      rotate_left
      · intro w hSw; (try dsimp only at hSw); simp only [List.getElem?_toArray, List.getElem?_cons_succ, List.getElem?_cons_zero, Option.map_some, Option.some.injEq]; (first | (go_simp; done) | (go_simp; with_reducible rfl))
      try simp only [Act.put, List.setIfInBounds_toArray, List.set_cons_zero, List.set_cons_succ]
      refine lOne 16 (by kernel_rfl) (LStep.op (fun K hK => ?_))
      go_simp
      refine (closed_any a ca g _ (HG.out.below H1.out.below) C0.out (by omega) (HM.out.below H1.out.below)).mono ?_
      rintro e wq2 ⟨rfl, bq⟩
      have H2 := Tre.hid (H1.out.quiet bq)
      clear bq
      (try dsimp only)
      refine hK.out _ _ ?_ (fun hH2 => ?_)
      · exact ⟨(H2.out.two 6 rfl).1, (H2.out.two 6 rfl).2, (H2.out.two 0 rfl).1, (H2.out.two 0 rfl).2, (H2.out.two 3 rfl).1⟩
      clear hK K hH1
      try simp only [Act.put, List.setIfInBounds_toArray, List.set_cons_zero, List.set_cons_succ]
      refine lPure (i := 17) (some 70) (v := ?_) (by rfl) (by kernel_rfl) (by kernel_rfl) (by kernel_rfl) (by kernel_rfl) (fun _ _ _ h => h) (by rfl) ?_ (keep_of hH2) ?_
      rotate_left
      · intro w; simp only [List.getElem?_toArray, List.getElem?_cons_succ, List.getElem?_cons_zero, Option.map_some, Option.some.injEq]; (first | (go_simp; done) | (go_simp; with_reducible rfl))
      try simp only [Act.put, List.setIfInBounds_toArray, List.set_cons_zero, List.set_cons_succ]
      refine lPure (i := 18) (some 71) (v := ?_) (by rfl) (by kernel_rfl) (by kernel_rfl) (by kernel_rfl) (by kernel_rfl) (fun _ _ _ h => h) (by rfl) ?_ (keep_of hH2) ?_
      rotate_left
      · intro w; simp only [List.getElem?_toArray, List.getElem?_cons_succ, List.getElem?_cons_zero, Option.map_some, Option.some.injEq]; (first | (go_simp; done) | (go_simp; with_reducible rfl))
      try simp only [Act.put, List.setIfInBounds_toArray, List.set_cons_zero, List.set_cons_succ]
      refine lPure (i := 19) (some 2) (v := ?_) (by rfl) (by kernel_rfl) (by kernel_rfl) (by kernel_rfl) (by kernel_rfl) (fun _ _ _ h => h) (by rfl) ?_ (keep_of hH2) ?_
      rotate_left
      · intro w; simp only [List.getElem?_toArray, List.getElem?_cons_succ, List.getElem?_cons_zero, Option.map_some, Option.some.injEq]; (first | (go_simp; done) | (go_simp; with_reducible rfl))
      try simp only [Act.put, List.setIfInBounds_toArray, List.set_cons_zero, List.set_cons_succ]
      refine lDone (by kernel_rfl) ?_
      clear hH2
      go_wp2_with fail
      go_ret
      refine ⟨congrArg Ending.returned (congrArg Value.bool ?_), H2.out.below⟩
      exact same_len HLN.out HFL.out HCN.out
end Go.Proofs.Ytlkfhbmjemjohaa.gr
