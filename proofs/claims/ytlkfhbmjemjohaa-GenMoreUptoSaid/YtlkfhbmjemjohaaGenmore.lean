/- GenMore: the walk. -/
import Derived.Test.YtlkfhbmjemjohaaGena
import Derived.Deep.DeepCutAuto
namespace Go.Proofs.Ytlkfhbmjemjohaa.gr
open Go.RowKit Go.Shelf Go.Maps Go.Tre lex
theorem ints_rowG {w : World} {a : Option Addr} {c n : Nat} {L : List Nat} (h : w.ownsRow 0 3 1 (.slice a n c) n (L.map rk)) : IntsAt w a (L.map fun k : Nat => (k : Int)) := by
  obtain ⟨a', c', e, _, r⟩ := row_read h
  cases e
  have hl : n = L.length := by have := h.1; simpa using this.symm
  subst hl
  rw [IntsAt, List.length_map, casts_map]
  exact r
theorem isSet {L : List Nat} {k : Nat} (h : k < L.length) : upd (setMap L k) L[k] () = setMap L (k + 1) := setMap_succ h

set_option maxHeartbeats 4000000 in
theorem within_any (ax ay : Option Addr) (cx cy : Nat) (X Y : List Nat) (w : World) (hx : IntsAt w ax (X.map fun k : Nat => (k : Int))) (hy : IntsAt w ay (Y.map fun k : Nat => (k : Int))) (hX : ∀ x ∈ X, x ≤ 8388608) (hY : ∀ y ∈ Y, y ≤ 8388608) (hlx : X.length ≤ 8388608) (hly : Y.length ≤ 8388608) (hsub : ∀ x ∈ X, x ∈ Y) :
    Calls Try.prog 11 #[.slice ax X.length cx, .slice ay Y.length cy] w fun e w' => e = .returned (.bool true) ∧ Below w.heap.size w w' := by
  have hmk0 : ∀ (w : World), (Instr.makeMap 32 none).run Try.prog w = .ok (.map (some w.heap.size)) (w.alloc (.map #[] 0)) := fun w => by
    simp [Instr.makeMap, run_underlying Try.underlying32, asInt, asIntOf, newObj]; rfl
  have M := (Mem.nil w).allocMap Try.prog 3 en (fun _ : Unit => .bool true)
  have HM0 := Tre.hid M
  have HX := Tre.hid hx
  have HY := Tre.hid hy
  have HXB := Tre.hid hX
  have HYB := Tre.hid hY
  have HS := Tre.hid hsub
  clear hx hy hX hY hsub M
  go_enter Try.func11, Try.ntmps11
  go_wp2_with fail
  clear hmk0
  go_loopw [13] (fun v13 wr => ∃ k N : Nat, k ≤ Y.length ∧ v13 = .int .i64 k ∧ Hid (Mem w wr [mapR Try.prog 3 en (fun _ : Unit => .bool true) w.heap.size N (setMap Y k)])) (fun v13 _ => Y.length - (intOf v13).toNat)
  case atStart => exact ⟨0, 0, Nat.zero_le _, rfl, by rw [setMap_zero]; exact HM0.out⟩
  case round =>
    obtain ⟨k, N, hk, rfl, hM⟩ := hrel
    by_cases hlt : k < Y.length
    · obtain ⟨b, o, rfl, hc⟩ := HY.out.at_ k (rk Y[k]) (by rw [casts_map, List.getElem?_map, List.getElem?_eq_getElem hlt]; rfl)
      have hc2 : wr.cell? ⟨b, o + k, none⟩ = some (.int .i64 (Y[k] : Int)) := cell_below hM.out.below hc
      have hb := HYB.out _ (List.getElem_mem hlt)
      have HSS := Tre.hid (isSet hlt)
      generalize Y[k] = y at *
      have l1 : (0 : Int) ≤ (k : Int) := by omega
      have l2 : (k : Int) < (Y.length : Int) := by omega
      clear hc
      go_wp2_with (refine wpList_store rfl _ _ _ 32 (.inl rfl) 4 KI injN Try.underlying32 rfl (hM.out.map 0 rfl) y rfl (kn y hb) () rfl ?_; intro w2 hm2 hg2; have M3 := hM.out.put 0 rfl hg2 hm2; have HM3 := Tre.hid M3; clear M3 hm2 hg2)
      go_roundw
      case rel => exact ⟨k + 1, _, by omega, by go_num, by have := HM3.out; rw [HSS.out] at this; exact this⟩
      case measure => simp [intOf]; omega
    · have e : k = Y.length := by omega
      have hM' := hM.out
      rw [e] at hM'
      have HM7 := Tre.hid hM'
      clear hM hM' e
      go_wp2_with fail
      go_loopw [22] (fun v22 wi => ∃ k : Nat, k ≤ X.length ∧ v22 = .int .i64 k ∧ Hid (Mem w wi [mapR Try.prog 3 en (fun _ : Unit => .bool true) w.heap.size N (setMap Y Y.length)])) (fun v22 _ => X.length - (intOf v22).toNat)
      case atStart => exact ⟨0, Nat.zero_le _, rfl, HM7.out⟩
      case round =>
        obtain ⟨k, hk, rfl, hI⟩ := hrel
        by_cases hlt : k < X.length
        · obtain ⟨b, o, rfl, hc⟩ := HX.out.at_ k (rk X[k]) (by rw [casts_map, List.getElem?_map, List.getElem?_eq_getElem hlt]; rfl)
          have hc2 : wr.cell? ⟨b, o + k, none⟩ = some (.int .i64 (X[k] : Int)) := cell_below hI.out.below hc
          have hb := HXB.out _ (List.getElem_mem hlt)
          have HIM := Tre.hid (setMap_all (HS.out _ (List.getElem_mem hlt)))
          generalize X[k] = x at *
          have l1 : (0 : Int) ≤ (k : Int) := by omega
          have l2 : (k : Int) < (X.length : Int) := by omega
          clear hc
          go_wp2_with (refine wpList_look1_some rfl _ _ 32 rfl 4 KI injN Try.underlying32 (zb _) rfl (hI.out.map 0 rfl) x rfl (kn x hb) () HIM.out ?_)
          go_roundw
          case rel => exact ⟨k + 1, by omega, by go_num, hI.out⟩
          case measure => simp [intOf]; omega
        · go_wp2_with fail
          go_ret
          exact ⟨rfl, hI.out.below⟩

set_option maxRecDepth 100000 in
set_option maxHeartbeats 8000000 in
theorem moreLaw_no (a : Option Addr) (ca : Nat) (g : Tre.Graph) (am : Option Addr) (cm : Nat) (mono : List Int) (more : Int) (w : World) (hg : NodesAt w a g.ns) (wg : g.weight ≤ 2097152) (hl : IntsAt w am mono) (hm : MaxAt w) (hc : ¬ g.monoC mono = 0) :
    Calls Try.prog 3 #[.agg #[.slice a g.ns.length ca, .int .i64 g.root], .slice am mono.length cm, .int .i64 more] w fun e w' => e = .returned (.bool true) ∧ Below w.heap.size w w' := by
  have M := (Mem.nil w).allocR #[.slice a g.ns.length ca, .int .i64 g.root] 24
  have HM := Tre.hid hm
  have HG := Tre.hid hg
  have HL := Tre.hid hl
  have HM0 := Tre.hid M
  have CGD := fun W (h : Below w.heap.size w W) => good_any a ca g am mono.length cm 300 W (by omega) (hg.below h)
  have HGD := Tre.hid CGD
  clear hg hl hm M CGD
  go_enter Try.func3, Try.ntmps3
  go_wp2_with fail
  refine (alive13 _ (HM.out.below HM0.out.below)).mono ?_
  rintro e w1 ⟨rfl, b1⟩
  have M1 := HM0.out.quiet b1
  obtain ⟨g0, g1⟩ := M1.two 0 rfl
  have HM1 := Tre.hid M1
  clear M1 b1
  go_wp2_with fail
  cases hgd : (decide ((g.great : Int) ≤ 300) && decide ((mono.length : Int) ≤ 60))
  · have CGD := HGD.out w1 HM1.out.below
    rw [hgd] at CGD
    refine CGD.mono ?_
    rintro e w2 ⟨rfl, b2⟩
    have HM2 := Tre.hid (HM1.out.quiet b2)
    clear b2 CGD hgd
    go_wp2_with fail
    go_ret
    exact ⟨rfl, HM2.out.below⟩
  have CGD := HGD.out w1 HM1.out.below
  rw [hgd] at CGD
  rw [Bool.and_eq_true, decide_eq_true_eq, decide_eq_true_eq] at hgd
  have hgl : g.ns.length ≤ 300 := by have := g.great_len; omega
  have hml : mono.length ≤ 60 := by omega
  clear hgd
  refine CGD.mono ?_
  rintro e w2 ⟨rfl, b2⟩
  clear g0 g1 CGD
  have M2 := HM1.out.quiet b2
  obtain ⟨g0, g1⟩ := M2.two 0 rfl
  have HM2 := Tre.hid M2
  clear M2 b2
  go_wp2_with fail
  refine (check_any a ca g _ (HG.out.below HM2.out.below) (by omega) (HM.out.below HM2.out.below)).mono ?_
  rintro e w3 ⟨rfl, b3⟩
  clear g0 g1
  have M3 := HM2.out.quiet b3
  obtain ⟨g0, g1⟩ := M3.two 0 rfl
  have HM3 := Tre.hid M3
  clear M3 b3
  by_cases t3 : g.checkC ≠ 0
  · have t := not_ok t3
    go_wp2_with fail
    go_ret
    exact ⟨rfl, HM3.out.below⟩
  have cg : g.checkC = 0 := by omega
  have HC2 : Hid (g.monoC mono = 2) := by
    show _ = _
    unfold Graph.monoC at hc ⊢
    rw [if_neg (by simp [cg])] at hc ⊢
    by_cases h : mono.any (outside g.ns.length) = true
    · rw [if_pos h]
    · rw [if_neg h] at hc; exact absurd rfl hc
  have u3 : (g.checkC != 0) = false := by rw [cg]; rfl
  have HC := Tre.hid hc
  clear cg t3 hc
  by_cases h0 : more < 0
  · go_wp2_with fail
    go_ret
    exact ⟨rfl, HM3.out.below⟩
  by_cases h1 : (g.ns.length : Int) ≤ more
  · go_wp2_with fail
    go_ret
    exact ⟨rfl, HM3.out.below⟩
  have CA := generic_no a ca g am cm mono w3 (HG.out.below HM3.out.below) wg (HL.out.below HM3.out.below) (by omega) (HM.out.below HM3.out.below) HC.out
  rw [HC2.out] at CA
  have HCA := Tre.hid CA
  clear CA
  go_wp2_with fail
  refine HCA.out.mono ?_
  rintro e w4 ⟨rfl, b4⟩
  clear g0 g1
  have M4 := HM3.out.quiet b4
  obtain ⟨g0, g1⟩ := M4.two 0 rfl
  have HM4 := Tre.hid M4
  have CB := fixed_no a ca g am cm mono w4 (HG.out.below M4.below) wg (HL.out.below M4.below) (by omega) (HM.out.below M4.below) HC.out
  rw [HC2.out] at CB
  have HCB := Tre.hid CB
  clear M4 b4 CB
  go_wp2_with fail
  refine HCB.out.mono ?_
  rintro e w5 ⟨rfl, b5⟩
  have HM5 := Tre.hid (HM4.out.quiet b5)
  clear b5
  go_wp2_with fail
  go_ret
  exact ⟨rfl, HM5.out.below⟩

set_option maxRecDepth 100000 in
set_option maxHeartbeats 8000000 in
theorem moreLaw_ok (a : Option Addr) (ca : Nat) (g : Tre.Graph) (am : Option Addr) (cm : Nat) (mn : List Nat) (more : Int) (w : World) (hg : NodesAt w a g.ns) (wg : g.weight ≤ 2097152) (hl : IntsAt w am (mn.map fun k : Nat => (k : Int))) (hm : MaxAt w) (c0 : g.checkC = 0) (hlm : ∀ m ∈ mn, m < g.ns.length) :
    Calls Try.prog 3 #[.agg #[.slice a g.ns.length ca, .int .i64 g.root], .slice am mn.length cm, .int .i64 more] w fun e w' => e = .returned (.bool true) ∧ Below w.heap.size w w' := by
  obtain ⟨ji, K1, K2, K3, K4⟩ := info_parts infoI
  have L1 := Tre.hid K1
  have L2 := Tre.hid K2
  have L3 := Tre.hid K3
  have L4 := Tre.hid K4
  have C0 := Tre.hid c0
  have HLM := Tre.hid hlm
  have u3 : (g.checkC != 0) = false := by rw [c0]; rfl
  clear K1 K2 K3 K4 c0 hlm
  have M := (Mem.nil w).allocR #[.slice a g.ns.length ca, .int .i64 g.root] 24
  have HM := Tre.hid hm
  have HG := Tre.hid hg
  have HL := Tre.hid hl
  have HM0 := Tre.hid M
  have CGD := fun W (h : Below w.heap.size w W) => good_any a ca g am mn.length cm 300 W (by omega) (hg.below h)
  have HGD := Tre.hid CGD
  clear hg hl hm M CGD
  go_enter Try.func3, Try.ntmps3
  go_wp2_with fail
  refine (alive13 _ (HM.out.below HM0.out.below)).mono ?_
  rintro e w1 ⟨rfl, b1⟩
  have M1 := HM0.out.quiet b1
  obtain ⟨g0, g1⟩ := M1.two 0 rfl
  have HM1 := Tre.hid M1
  clear M1 b1
  go_wp2_with fail
  cases hgd : (decide ((g.great : Int) ≤ 300) && decide ((mn.length : Int) ≤ 60))
  · have CGD := HGD.out w1 HM1.out.below
    rw [hgd] at CGD
    refine CGD.mono ?_
    rintro e w2 ⟨rfl, b2⟩
    have HM2 := Tre.hid (HM1.out.quiet b2)
    clear b2 CGD hgd
    go_wp2_with fail
    go_ret
    exact ⟨rfl, HM2.out.below⟩
  have CGD := HGD.out w1 HM1.out.below
  rw [hgd] at CGD
  rw [Bool.and_eq_true, decide_eq_true_eq, decide_eq_true_eq] at hgd
  have hgl : g.ns.length ≤ 300 := by have := g.great_len; omega
  have hml : mn.length ≤ 60 := by omega
  clear hgd
  refine CGD.mono ?_
  rintro e w2 ⟨rfl, b2⟩
  clear g0 g1 CGD
  have M2 := HM1.out.quiet b2
  obtain ⟨g0, g1⟩ := M2.two 0 rfl
  have HM2 := Tre.hid M2
  clear M2 b2
  go_wp2_with fail
  refine (check_any a ca g _ (HG.out.below HM2.out.below) (by omega) (HM.out.below HM2.out.below)).mono ?_
  rintro e w3 ⟨rfl, b3⟩
  clear g0 g1
  have M3 := HM2.out.quiet b3
  obtain ⟨g0, g1⟩ := M3.two 0 rfl
  have HM3 := Tre.hid M3
  clear M3 b3
  by_cases h0 : more < 0
  · go_wp2_with fail
    go_ret
    exact ⟨rfl, HM3.out.below⟩
  by_cases h1 : (g.ns.length : Int) ≤ more
  · go_wp2_with fail
    go_ret
    exact ⟨rfl, HM3.out.below⟩
  obtain ⟨mr, rfl⟩ : ∃ mr : Nat, more = (mr : Int) := ⟨more.toNat, by omega⟩
  have hmr : mr < g.ns.length := by omega
  have HCA := Tre.hid (generic_ok a ca g am cm mn w3 (HG.out.below HM3.out.below) C0.out wg (HL.out.below HM3.out.below) HLM.out (by omega) (HM.out.below HM3.out.below))
  go_wp2_with fail
  refine HCA.out.mono ?_
  rintro e w4 ⟨vA, rfl, m4⟩
  clear g0 g1
  have M4 := HM3.out.call m4
  obtain ⟨g0, g1⟩ := M4.two 1 rfl
  obtain ⟨aA, cA, rfl, _⟩ := M4.val 0 rfl
  have HM4 := Tre.hid M4
  have HCB := Tre.hid (fixed_ok a ca g am cm mn w4 (HG.out.below M4.below) C0.out wg (HL.out.below M4.below) HLM.out (by omega) (HM.out.below M4.below))
  clear M4 m4
  go_wp2_with fail
  refine HCB.out.mono ?_
  rintro e w5 ⟨vB, rfl, m5⟩
  clear g0 g1
  have M5 := HM4.out.call m5
  obtain ⟨aB, cB, rfl, _⟩ := M5.val 0 rfl
  have HM5 := Tre.hid M5
  clear M5 m5
  go_upto_region 9 with fail
  go_cut [11] (fun s11 wx => ∃ vC : Value, s11 = vC ∧ Hid (Mem w wx [rowR 3 1 vC (g.genericL (mr :: mn)).length ((g.genericL (mr :: mn)).map rk), rowR 3 1 (.slice aB (g.fixedL mn).length cB) (g.fixedL mn).length ((g.fixedL mn).map rk), rowR 3 1 (.slice aA (g.genericL mn).length cA) (g.genericL mn).length ((g.genericL mn).map rk), cellsR w.heap.size 24 #[.slice a g.ns.length ca, .int .i64 g.root]]))
  case first =>
    refine wp_region_keep (S := (fun w' => w'.cell? ⟨w.heap.size, 0, none⟩ = some (.slice a g.ns.length ca) ∧ w'.cell? ⟨w.heap.size, 1, none⟩ = some (.int .i64 g.root))) [] (by kernel_rfl) ?_ (fun hH0 => ?_)
    · exact HM5.out.drew.two 2 rfl
    have H0 := Tre.hid HM5.out.drew
    generalize hq : w5.drew = wq0 at H0 hH0 ⊢
    clear hq
    refine lPure (i := 1) (some 66) (v := ?_) (by rfl) (by kernel_rfl) (by kernel_rfl) (by kernel_rfl) (by kernel_rfl) (fun _ _ _ h => h) (by rfl) ?_ (keep_of hH0) ?_
    rotate_left
    · intro w; simp only [List.getElem?_toArray, List.getElem?_cons_succ, List.getElem?_cons_zero, Option.map_some, Option.some.injEq]; (first | (go_simp; done) | (go_simp; with_reducible rfl))
    try simp only [Act.put, List.setIfInBounds_toArray, List.set_cons_zero, List.set_cons_succ]
    refine lPure (i := 3) (some 68) (v := ?_) (by rfl) (by kernel_rfl) (by kernel_rfl) (by kernel_rfl) (by kernel_rfl) (fun _ _ _ h => h) (by rfl) ?_ (keep_of hH0) ?_
    rotate_left
    · intro w; simp only [List.getElem?_toArray, List.getElem?_cons_succ, List.getElem?_cons_zero, Option.map_some, Option.some.injEq]; (first | (go_simp; done) | (go_simp; with_reducible rfl))
    try simp only [Act.put, List.setIfInBounds_toArray, List.set_cons_zero, List.set_cons_succ]
    refine lTake (i := 0) (some 65) (v := ?_) (by rfl) (by kernel_rfl) (by kernel_rfl) (by kernel_rfl) (by kernel_rfl) (by kernel_rfl) (fun _ _ _ h => h) (by rfl) ?_ hH0 ?_
    rotate_left
    · intro w hSw; (try dsimp only at hSw); simp only [List.getElem?_toArray, List.getElem?_cons_zero, Option.map_some, Option.some.injEq]; (first | (go_simp; done) | (go_simp; with_reducible rfl))
    try simp only [Act.put, List.setIfInBounds_toArray, List.set_cons_zero, List.set_cons_succ]
    refine lOne 2 (by kernel_rfl) (LStep.op (fun K hK => ?_))
    go_simp
    have H1 := Tre.hid (H0.out.allocRow #[.int .i64 (mr : Int)] 3 1 1 (by unfold maxLen; omega) rfl)
    generalize hb : wq0.heap.size = b67 at H1 ⊢
    generalize hw : wq0.alloc (.cells #[.int .i64 (mr : Int)] 3) = wq1 at H1 ⊢
    clear hb hw
    refine hK.out _ _ ?_ (fun hH1 => ?_)
    · exact H1.out.two 3 rfl
    clear hK K hH0
    try simp only [Act.put, List.setIfInBounds_toArray, List.set_cons_zero, List.set_cons_succ]
    refine lOne 4 (by kernel_rfl) (LStep.op (fun K hK => ?_))
    simp only [List.getElem?_toArray, List.getElem?_cons_succ, List.getElem?_cons_zero]
    rw [if_pos (by rfl)]
    refine wp_append_row _ _ _ 25 (by rfl) 3 ji _ 1 8 Try.underlying25 L1.out L2.out L3.out L4.out rfl (by omega) (.slice (some ⟨b67, 0, none⟩) 1 1) 1 ([.int .i64 (mr : Int)]) (by rfl) (H1.out.row 0 rfl) am mn.length cm (mn.map rk) (by rfl) (by have h := HL.out.below H1.out.below; rw [List.length_map, casts_map] at h; exact h) (by first | (simp [Value.oneCell']; done) | exact fun u hu => by obtain ⟨z, _, rfl⟩ := List.mem_map.1 hu; rfl) (by unfold maxLen; omega) (by omega) ?_
    intro v' wq2 hown4 hgrow4 hat4
    have hown5 : wq2.ownsRow 0 3 1 v' (mn.length + 1) ((mr :: mn).map rk) := by rw [Nat.add_comm] at hown4; exact hown4
    have M4 := H1.out.grow 0 rfl hgrow4 hown5 hat4
    obtain ⟨a69, c69, rfl, _⟩ := M4.val 0 rfl
    have H2 := Tre.hid M4
    clear M4 hown4 hown5 hgrow4 hat4
    (try dsimp only)
    refine hK.out _ _ ?_ (fun hH2 => ?_)
    · exact H2.out.two 3 rfl
    clear hK K hH1
    try simp only [Act.put, List.setIfInBounds_toArray, List.set_cons_zero, List.set_cons_succ]
    refine lOne 5 (by kernel_rfl) (LStep.op (fun K hK => ?_))
    go_simp
    have CF := generic_ok a ca g a69 c69 (mr :: mn) wq2 (HG.out.below H2.out.below) C0.out (by omega) (ints_rowG (H2.out.row 0 rfl)) (fun m hm => by rcases List.mem_cons.1 hm with rfl | hm; exact hmr; exact HLM.out m hm) (by simp; omega) (HM.out.below H2.out.below)
    rw [show (mr :: mn).length = mn.length + 1 by simp] at CF
    refine CF.mono ?_
    clear CF
    rintro e wq3 ⟨vq, rfl, mq⟩
    have H3 := Tre.hid (H2.out.call mq)
    clear mq
    (try dsimp only)
    refine hK.out _ _ ?_ (fun hH3 => ?_)
    · exact H3.out.two 4 rfl
    clear hK K hH2
    try simp only [Act.put, List.setIfInBounds_toArray, List.set_cons_zero, List.set_cons_succ]
    refine lPure (i := 6) (some 64) (v := ?_) (by rfl) (by kernel_rfl) (by kernel_rfl) (by kernel_rfl) (by kernel_rfl) (fun _ _ _ h => h) (by rfl) ?_ (keep_of hH3) ?_
    rotate_left
    · intro w; simp only [List.getElem?_toArray, List.getElem?_cons_succ, List.getElem?_cons_zero, Option.map_some, Option.some.injEq]; (first | (go_simp; done) | (go_simp; with_reducible rfl))
    try simp only [Act.put, List.setIfInBounds_toArray, List.set_cons_zero, List.set_cons_succ]
    refine lPure (i := 7) (some 71) (v := ?_) (by rfl) (by kernel_rfl) (by kernel_rfl) (by kernel_rfl) (by kernel_rfl) (fun _ _ _ h => h) (by rfl) ?_ (keep_of hH3) ?_
    rotate_left
    · intro w; simp only [List.getElem?_toArray, List.getElem?_cons_succ, List.getElem?_cons_zero, Option.map_some, Option.some.injEq]; (first | (go_simp; done) | (go_simp; with_reducible rfl))
    try simp only [Act.put, List.setIfInBounds_toArray, List.set_cons_zero, List.set_cons_succ]
    refine lPure (i := 8) (some 72) (v := ?_) (by rfl) (by kernel_rfl) (by kernel_rfl) (by kernel_rfl) (by kernel_rfl) (fun _ _ _ h => h) (by rfl) ?_ (keep_of hH3) ?_
    rotate_left
    · intro w; simp only [List.getElem?_toArray, List.getElem?_cons_succ, List.getElem?_cons_zero, Option.map_some, Option.some.injEq]; (first | (go_simp; done) | (go_simp; with_reducible rfl))
    try simp only [Act.put, List.setIfInBounds_toArray, List.set_cons_zero, List.set_cons_succ]
    refine lPure (i := 9) (some 11) (v := ?_) (by rfl) (by kernel_rfl) (by kernel_rfl) (by kernel_rfl) (by kernel_rfl) (fun _ _ _ h => h) (by rfl) ?_ (keep_of hH3) ?_
    rotate_left
    · intro w; simp only [List.getElem?_toArray, List.getElem?_cons_succ, List.getElem?_cons_zero, Option.map_some, Option.some.injEq]; (first | (go_simp; done) | (go_simp; with_reducible rfl))
    try simp only [Act.put, List.setIfInBounds_toArray, List.set_cons_zero, List.set_cons_succ]
    refine lPure (i := 10) (some 12) (v := ?_) (by rfl) (by kernel_rfl) (by kernel_rfl) (by kernel_rfl) (by kernel_rfl) (fun _ _ _ h => h) (by rfl) ?_ (keep_of hH3) ?_
    rotate_left
    · intro w; simp only [List.getElem?_toArray, List.getElem?_cons_succ, List.getElem?_cons_zero, Option.map_some, Option.some.injEq]; (first | (go_simp; done) | (go_simp; with_reducible rfl))
    try simp only [Act.put, List.setIfInBounds_toArray, List.set_cons_zero, List.set_cons_succ]
    refine lDone (by kernel_rfl) ?_
    clear hH3
    go_wp2_with fail
    go_meet
    exact ⟨vq, rfl, ((((((H3.out.front 1 rfl).front 4 rfl).front 4 rfl).front 4 rfl).front 4 rfl)).sub (by simp)⟩
  case rest =>
    obtain ⟨vC, rfl, hM⟩ := hcut
    obtain ⟨aC, cC, rfl, _⟩ := hM.out.val 0 rfl
    go_upto_region 10 with fail
    go_cut [13] (fun s13 wx => ∃ vD : Value, s13 = vD ∧ Hid (Mem w wx [rowR 3 1 vD (g.fixedL (mn ++ [mr])).length ((g.fixedL (mn ++ [mr])).map rk), rowR 3 1 (.slice aC (g.genericL (mr :: mn)).length cC) (g.genericL (mr :: mn)).length ((g.genericL (mr :: mn)).map rk), rowR 3 1 (.slice aB (g.fixedL mn).length cB) (g.fixedL mn).length ((g.fixedL mn).map rk), rowR 3 1 (.slice aA (g.genericL mn).length cA) (g.genericL mn).length ((g.genericL mn).map rk), cellsR w.heap.size 24 #[.slice a g.ns.length ca, .int .i64 g.root]]))
    case first =>
      refine wp_region_keep (S := (fun w' => w'.cell? ⟨w.heap.size, 0, none⟩ = some (.slice a g.ns.length ca) ∧ w'.cell? ⟨w.heap.size, 1, none⟩ = some (.int .i64 g.root))) [] (by kernel_rfl) ?_ (fun hH0 => ?_)
      · exact hM.out.drew.two 3 rfl
      have H0 := Tre.hid hM.out.drew
      generalize hq : wc.drew = wq0 at H0 hH0 ⊢
      clear hq
      refine lPure (i := 2) (some 76) (v := ?_) (by rfl) (by kernel_rfl) (by kernel_rfl) (by kernel_rfl) (by kernel_rfl) (fun _ _ _ h => h) (by rfl) ?_ (keep_of hH0) ?_
      rotate_left
      · intro w; simp only [List.getElem?_toArray, List.getElem?_cons_succ, List.getElem?_cons_zero, Option.map_some, Option.some.injEq]; (first | (go_simp; done) | (go_simp; with_reducible rfl))
      try simp only [Act.put, List.setIfInBounds_toArray, List.set_cons_zero, List.set_cons_succ]
      refine lPure (i := 4) (some 78) (v := ?_) (by rfl) (by kernel_rfl) (by kernel_rfl) (by kernel_rfl) (by kernel_rfl) (fun _ _ _ h => h) (by rfl) ?_ (keep_of hH0) ?_
      rotate_left
      · intro w; simp only [List.getElem?_toArray, List.getElem?_cons_succ, List.getElem?_cons_zero, Option.map_some, Option.some.injEq]; (first | (go_simp; done) | (go_simp; with_reducible rfl))
      try simp only [Act.put, List.setIfInBounds_toArray, List.set_cons_zero, List.set_cons_succ]
      refine lTake (i := 0) (some 74) (v := ?_) (by rfl) (by kernel_rfl) (by kernel_rfl) (by kernel_rfl) (by kernel_rfl) (by kernel_rfl) (fun _ _ _ h => h) (by rfl) ?_ hH0 ?_
      rotate_left
      · intro w hSw; (try dsimp only at hSw); simp only [List.getElem?_toArray, List.getElem?_cons_zero, Option.map_some, Option.some.injEq]; (first | (go_simp; done) | (go_simp; with_reducible rfl))
      try simp only [Act.put, List.setIfInBounds_toArray, List.set_cons_zero, List.set_cons_succ]
      refine lTwo 1 5 (by kernel_rfl) (LStep.op (fun K hK => ?_)) (LStep.op (fun K hK => ?_))
      · -- 75
        go_simp
        have H1 := Tre.hid (H0.out.allocRow #[] 3 1 0 (by unfold maxLen; omega) rfl)
        generalize hb : wq0.heap.size = b75 at H1 ⊢
        generalize hw : wq0.alloc (.cells #[] 3) = wq1 at H1 ⊢
        clear hb hw
        refine hK.out _ _ ?_ (fun hH1 => ?_)
        · exact H1.out.two 4 rfl
        clear hK K hH0
        try simp only [Act.put, List.setIfInBounds_toArray, List.set_cons_zero, List.set_cons_succ]
        refine lTwo 3 5 (by kernel_rfl) (LStep.op (fun K hK => ?_)) (LStep.op (fun K hK => ?_))
        · -- 77
          simp only [List.getElem?_toArray, List.getElem?_cons_succ, List.getElem?_cons_zero]
          rw [if_pos (by rfl)]
          refine wp_append_row _ _ _ 25 (by rfl) 3 ji _ 1 8 Try.underlying25 L1.out L2.out L3.out L4.out rfl (by omega) (.slice (some ⟨b75, 0, none⟩) 0 0) 0 ([]) (by rfl) (H1.out.row 0 rfl) am mn.length cm (mn.map rk) (by rfl) (by have h := HL.out.below H1.out.below; rw [List.length_map, casts_map] at h; exact h) (by first | (simp [Value.oneCell']; done) | exact fun u hu => by obtain ⟨z, _, rfl⟩ := List.mem_map.1 hu; rfl) (by unfold maxLen; omega) (by omega) ?_
          intro v' wq2 hown4 hgrow4 hat4
          have hown5 : wq2.ownsRow 0 3 1 v' (mn.length) ((mn).map rk) := by rw [Nat.zero_add] at hown4; exact hown4
          have M4 := H1.out.grow 0 rfl hgrow4 hown5 hat4
          obtain ⟨a77, c77, rfl, _⟩ := M4.val 0 rfl
          have H2 := Tre.hid M4
          clear M4 hown4 hown5 hgrow4 hat4
          (try dsimp only)
          refine hK.out _ _ ?_ (fun hH2 => ?_)
          · exact H2.out.two 4 rfl
          clear hK K hH1
          try simp only [Act.put, List.setIfInBounds_toArray, List.set_cons_zero, List.set_cons_succ]
          refine lOne 5 (by kernel_rfl) (LStep.op (fun K hK => ?_))
          go_simp
          have H3 := Tre.hid (H2.out.allocRow #[.int .i64 (mr : Int)] 3 1 1 (by unfold maxLen; omega) rfl)
          generalize hb : wq2.heap.size = b79 at H3 ⊢
          generalize hw : wq2.alloc (.cells #[.int .i64 (mr : Int)] 3) = wq3 at H3 ⊢
          clear hb hw
          refine hK.out _ _ ?_ (fun hH3 => ?_)
          · exact H3.out.two 5 rfl
          clear hK K hH2
          try simp only [Act.put, List.setIfInBounds_toArray, List.set_cons_zero, List.set_cons_succ]
          refine lOne 6 (by kernel_rfl) (LStep.op (fun K hK => ?_))
          simp only [List.getElem?_toArray, List.getElem?_cons_succ, List.getElem?_cons_zero]
          rw [if_pos (by rfl)]
          refine wp_append_row _ _ _ 25 (by rfl) 3 ji _ 1 8 Try.underlying25 L1.out L2.out L3.out L4.out rfl (by omega) (.slice a77 mn.length c77) mn.length (mn.map rk) (by rfl) (H3.out.row 1 rfl) (some ⟨b79, 0, none⟩) 1 1 ([.int .i64 (mr : Int)]) (by rfl) (⟨rfl, fun j u hj => ⟨_, 0, rfl, by rw [Nat.zero_add]; exact H3.out.cellAt 0 rfl j hj⟩⟩) (by first | (simp [Value.oneCell']; done) | exact fun u hu => by obtain ⟨z, _, rfl⟩ := List.mem_map.1 hu; rfl) (by unfold maxLen; omega) (by omega) ?_
          intro v' wq4 hown4 hgrow4 hat4
          have hown5 : wq4.ownsRow 0 3 1 v' (mn.length + 1) ((mn ++ [mr]).map rk) := by rw [List.map_append]; exact hown4
          have M4 := H3.out.grow 1 rfl hgrow4 hown5 hat4
          obtain ⟨a80, c80, rfl, _⟩ := M4.val 1 rfl
          have H4 := Tre.hid M4
          clear M4 hown4 hown5 hgrow4 hat4
          (try dsimp only)
          refine hK.out _ _ ?_ (fun hH4 => ?_)
          · exact H4.out.two 5 rfl
          clear hK K hH3
          try simp only [Act.put, List.setIfInBounds_toArray, List.set_cons_zero, List.set_cons_succ]
          refine lOne 7 (by kernel_rfl) (LStep.op (fun K hK => ?_))
          go_simp
          have CF := fixed_ok a ca g a80 c80 (mn ++ [mr]) wq4 (HG.out.below H4.out.below) C0.out (by omega) (ints_rowG (H4.out.row 1 rfl)) (fun m hm => by rcases List.mem_append.1 hm with hm | hm; exact HLM.out m hm; simp at hm; rw [hm]; exact hmr) (by simp; omega) (HM.out.below H4.out.below)
          rw [show (mn ++ [mr]).length = mn.length + 1 by simp] at CF
          refine CF.mono ?_
          clear CF
          rintro e wq5 ⟨vq, rfl, mq⟩
          have H5 := Tre.hid (H4.out.call mq)
          clear mq
          (try dsimp only)
          refine hK.out _ _ ?_ (fun hH5 => ?_)
          · exact H5.out.two 6 rfl
          clear hK K hH4
          try simp only [Act.put, List.setIfInBounds_toArray, List.set_cons_zero, List.set_cons_succ]
          refine lPure (i := 8) (some 73) (v := ?_) (by rfl) (by kernel_rfl) (by kernel_rfl) (by kernel_rfl) (by kernel_rfl) (fun _ _ _ h => h) (by rfl) ?_ (keep_of hH5) ?_
          rotate_left
          · intro w; simp only [List.getElem?_toArray, List.getElem?_cons_succ, List.getElem?_cons_zero, Option.map_some, Option.some.injEq]; (first | (go_simp; done) | (go_simp; with_reducible rfl))
          try simp only [Act.put, List.setIfInBounds_toArray, List.set_cons_zero, List.set_cons_succ]
          refine lPure (i := 9) (some 82) (v := ?_) (by rfl) (by kernel_rfl) (by kernel_rfl) (by kernel_rfl) (by kernel_rfl) (fun _ _ _ h => h) (by rfl) ?_ (keep_of hH5) ?_
          rotate_left
          · intro w; simp only [List.getElem?_toArray, List.getElem?_cons_succ, List.getElem?_cons_zero, Option.map_some, Option.some.injEq]; (first | (go_simp; done) | (go_simp; with_reducible rfl))
          try simp only [Act.put, List.setIfInBounds_toArray, List.set_cons_zero, List.set_cons_succ]
          refine lPure (i := 10) (some 83) (v := ?_) (by rfl) (by kernel_rfl) (by kernel_rfl) (by kernel_rfl) (by kernel_rfl) (fun _ _ _ h => h) (by rfl) ?_ (keep_of hH5) ?_
          rotate_left
          · intro w; simp only [List.getElem?_toArray, List.getElem?_cons_succ, List.getElem?_cons_zero, Option.map_some, Option.some.injEq]; (first | (go_simp; done) | (go_simp; with_reducible rfl))
          try simp only [Act.put, List.setIfInBounds_toArray, List.set_cons_zero, List.set_cons_succ]
          refine lPure (i := 11) (some 13) (v := ?_) (by rfl) (by kernel_rfl) (by kernel_rfl) (by kernel_rfl) (by kernel_rfl) (fun _ _ _ h => h) (by rfl) ?_ (keep_of hH5) ?_
          rotate_left
          · intro w; simp only [List.getElem?_toArray, List.getElem?_cons_succ, List.getElem?_cons_zero, Option.map_some, Option.some.injEq]; (first | (go_simp; done) | (go_simp; with_reducible rfl))
          try simp only [Act.put, List.setIfInBounds_toArray, List.set_cons_zero, List.set_cons_succ]
          refine lPure (i := 12) (some 14) (v := ?_) (by rfl) (by kernel_rfl) (by kernel_rfl) (by kernel_rfl) (by kernel_rfl) (fun _ _ _ h => h) (by rfl) ?_ (keep_of hH5) ?_
          rotate_left
          · intro w; simp only [List.getElem?_toArray, List.getElem?_cons_succ, List.getElem?_cons_zero, Option.map_some, Option.some.injEq]; (first | (go_simp; done) | (go_simp; with_reducible rfl))
          try simp only [Act.put, List.setIfInBounds_toArray, List.set_cons_zero, List.set_cons_succ]
          refine lDone (by kernel_rfl) ?_
          clear hH5
          go_wp2_with fail
          go_meet
          exact ⟨vq, rfl, ((((((((H5.out.front 2 rfl).front 2 rfl).front 6 rfl).front 6 rfl).front 6 rfl).front 6 rfl).front 6 rfl)).sub (by simp)⟩
        · -- 79
          go_simp
          have H2 := Tre.hid (H1.out.allocRow #[.int .i64 (mr : Int)] 3 1 1 (by unfold maxLen; omega) rfl)
          generalize hb : wq1.heap.size = b79 at H2 ⊢
          generalize hw : wq1.alloc (.cells #[.int .i64 (mr : Int)] 3) = wq2 at H2 ⊢
          clear hb hw
          refine hK.out _ _ ?_ (fun hH6 => ?_)
          · exact H2.out.two 5 rfl
          clear hK K hH1
          try simp only [Act.put, List.setIfInBounds_toArray, List.set_cons_zero, List.set_cons_succ]
          refine lOne 3 (by kernel_rfl) (LStep.op (fun K hK => ?_))
          simp only [List.getElem?_toArray, List.getElem?_cons_succ, List.getElem?_cons_zero]
          rw [if_pos (by rfl)]
          refine wp_append_row _ _ _ 25 (by rfl) 3 ji _ 1 8 Try.underlying25 L1.out L2.out L3.out L4.out rfl (by omega) (.slice (some ⟨b75, 0, none⟩) 0 0) 0 ([]) (by rfl) (H2.out.row 1 rfl) am mn.length cm (mn.map rk) (by rfl) (by have h := HL.out.below H2.out.below; rw [List.length_map, casts_map] at h; exact h) (by first | (simp [Value.oneCell']; done) | exact fun u hu => by obtain ⟨z, _, rfl⟩ := List.mem_map.1 hu; rfl) (by unfold maxLen; omega) (by omega) ?_
          intro v' wq3 hown4 hgrow4 hat4
          have hown5 : wq3.ownsRow 0 3 1 v' (mn.length) ((mn).map rk) := by rw [Nat.zero_add] at hown4; exact hown4
          have M4 := H2.out.grow 1 rfl hgrow4 hown5 hat4
          obtain ⟨a77, c77, rfl, _⟩ := M4.val 1 rfl
          have H3 := Tre.hid M4
          clear M4 hown4 hown5 hgrow4 hat4
          (try dsimp only)
          refine hK.out _ _ ?_ (fun hH7 => ?_)
          · exact H3.out.two 5 rfl
          clear hK K hH6
          try simp only [Act.put, List.setIfInBounds_toArray, List.set_cons_zero, List.set_cons_succ]
          refine lOne 6 (by kernel_rfl) (LStep.op (fun K hK => ?_))
          simp only [List.getElem?_toArray, List.getElem?_cons_succ, List.getElem?_cons_zero]
          rw [if_pos (by rfl)]
          refine wp_append_row _ _ _ 25 (by rfl) 3 ji _ 1 8 Try.underlying25 L1.out L2.out L3.out L4.out rfl (by omega) (.slice a77 mn.length c77) mn.length (mn.map rk) (by rfl) (H3.out.row 1 rfl) (some ⟨b79, 0, none⟩) 1 1 ([.int .i64 (mr : Int)]) (by rfl) (⟨rfl, fun j u hj => ⟨_, 0, rfl, by rw [Nat.zero_add]; exact H3.out.cellAt 0 rfl j hj⟩⟩) (by first | (simp [Value.oneCell']; done) | exact fun u hu => by obtain ⟨z, _, rfl⟩ := List.mem_map.1 hu; rfl) (by unfold maxLen; omega) (by omega) ?_
          intro v' wq4 hown4 hgrow4 hat4
          have hown5 : wq4.ownsRow 0 3 1 v' (mn.length + 1) ((mn ++ [mr]).map rk) := by rw [List.map_append]; exact hown4
          have M4 := H3.out.grow 1 rfl hgrow4 hown5 hat4
          obtain ⟨a80, c80, rfl, _⟩ := M4.val 1 rfl
          have H4 := Tre.hid M4
          clear M4 hown4 hown5 hgrow4 hat4
          (try dsimp only)
          refine hK.out _ _ ?_ (fun hH8 => ?_)
          · exact H4.out.two 5 rfl
          clear hK K hH7
          try simp only [Act.put, List.setIfInBounds_toArray, List.set_cons_zero, List.set_cons_succ]
          refine lOne 7 (by kernel_rfl) (LStep.op (fun K hK => ?_))
          go_simp
          have CF := fixed_ok a ca g a80 c80 (mn ++ [mr]) wq4 (HG.out.below H4.out.below) C0.out (by omega) (ints_rowG (H4.out.row 1 rfl)) (fun m hm => by rcases List.mem_append.1 hm with hm | hm; exact HLM.out m hm; simp at hm; rw [hm]; exact hmr) (by simp; omega) (HM.out.below H4.out.below)
          rw [show (mn ++ [mr]).length = mn.length + 1 by simp] at CF
          refine CF.mono ?_
          clear CF
          rintro e wq5 ⟨vq, rfl, mq⟩
          have H5 := Tre.hid (H4.out.call mq)
          clear mq
          (try dsimp only)
          refine hK.out _ _ ?_ (fun hH9 => ?_)
          · exact H5.out.two 6 rfl
          clear hK K hH8
          try simp only [Act.put, List.setIfInBounds_toArray, List.set_cons_zero, List.set_cons_succ]
          refine lPure (i := 8) (some 73) (v := ?_) (by rfl) (by kernel_rfl) (by kernel_rfl) (by kernel_rfl) (by kernel_rfl) (fun _ _ _ h => h) (by rfl) ?_ (keep_of hH9) ?_
          rotate_left
          · intro w; simp only [List.getElem?_toArray, List.getElem?_cons_succ, List.getElem?_cons_zero, Option.map_some, Option.some.injEq]; (first | (go_simp; done) | (go_simp; with_reducible rfl))
          try simp only [Act.put, List.setIfInBounds_toArray, List.set_cons_zero, List.set_cons_succ]
          refine lPure (i := 9) (some 82) (v := ?_) (by rfl) (by kernel_rfl) (by kernel_rfl) (by kernel_rfl) (by kernel_rfl) (fun _ _ _ h => h) (by rfl) ?_ (keep_of hH9) ?_
          rotate_left
          · intro w; simp only [List.getElem?_toArray, List.getElem?_cons_succ, List.getElem?_cons_zero, Option.map_some, Option.some.injEq]; (first | (go_simp; done) | (go_simp; with_reducible rfl))
          try simp only [Act.put, List.setIfInBounds_toArray, List.set_cons_zero, List.set_cons_succ]
          refine lPure (i := 10) (some 83) (v := ?_) (by rfl) (by kernel_rfl) (by kernel_rfl) (by kernel_rfl) (by kernel_rfl) (fun _ _ _ h => h) (by rfl) ?_ (keep_of hH9) ?_
          rotate_left
          · intro w; simp only [List.getElem?_toArray, List.getElem?_cons_succ, List.getElem?_cons_zero, Option.map_some, Option.some.injEq]; (first | (go_simp; done) | (go_simp; with_reducible rfl))
          try simp only [Act.put, List.setIfInBounds_toArray, List.set_cons_zero, List.set_cons_succ]
          refine lPure (i := 11) (some 13) (v := ?_) (by rfl) (by kernel_rfl) (by kernel_rfl) (by kernel_rfl) (by kernel_rfl) (fun _ _ _ h => h) (by rfl) ?_ (keep_of hH9) ?_
          rotate_left
          · intro w; simp only [List.getElem?_toArray, List.getElem?_cons_succ, List.getElem?_cons_zero, Option.map_some, Option.some.injEq]; (first | (go_simp; done) | (go_simp; with_reducible rfl))
          try simp only [Act.put, List.setIfInBounds_toArray, List.set_cons_zero, List.set_cons_succ]
          refine lPure (i := 12) (some 14) (v := ?_) (by rfl) (by kernel_rfl) (by kernel_rfl) (by kernel_rfl) (by kernel_rfl) (fun _ _ _ h => h) (by rfl) ?_ (keep_of hH9) ?_
          rotate_left
          · intro w; simp only [List.getElem?_toArray, List.getElem?_cons_succ, List.getElem?_cons_zero, Option.map_some, Option.some.injEq]; (first | (go_simp; done) | (go_simp; with_reducible rfl))
          try simp only [Act.put, List.setIfInBounds_toArray, List.set_cons_zero, List.set_cons_succ]
          refine lDone (by kernel_rfl) ?_
          clear hH9
          go_wp2_with fail
          go_meet
          exact ⟨vq, rfl, ((((((((H5.out.front 2 rfl).front 2 rfl).front 6 rfl).front 6 rfl).front 6 rfl).front 6 rfl).front 6 rfl)).sub (by simp)⟩
      · -- 79
        go_simp
        have H1 := Tre.hid (H0.out.allocRow #[.int .i64 (mr : Int)] 3 1 1 (by unfold maxLen; omega) rfl)
        generalize hb : wq0.heap.size = b79 at H1 ⊢
        generalize hw : wq0.alloc (.cells #[.int .i64 (mr : Int)] 3) = wq1 at H1 ⊢
        clear hb hw
        refine hK.out _ _ ?_ (fun hH10 => ?_)
        · exact H1.out.two 4 rfl
        clear hK K hH0
        try simp only [Act.put, List.setIfInBounds_toArray, List.set_cons_zero, List.set_cons_succ]
        refine lOne 1 (by kernel_rfl) (LStep.op (fun K hK => ?_))
        go_simp
        have H2 := Tre.hid (H1.out.allocRow #[] 3 1 0 (by unfold maxLen; omega) rfl)
        generalize hb : wq1.heap.size = b75 at H2 ⊢
        generalize hw : wq1.alloc (.cells #[] 3) = wq2 at H2 ⊢
        clear hb hw
        refine hK.out _ _ ?_ (fun hH11 => ?_)
        · exact H2.out.two 5 rfl
        clear hK K hH10
        try simp only [Act.put, List.setIfInBounds_toArray, List.set_cons_zero, List.set_cons_succ]
        refine lOne 3 (by kernel_rfl) (LStep.op (fun K hK => ?_))
        simp only [List.getElem?_toArray, List.getElem?_cons_succ, List.getElem?_cons_zero]
        rw [if_pos (by rfl)]
        refine wp_append_row _ _ _ 25 (by rfl) 3 ji _ 1 8 Try.underlying25 L1.out L2.out L3.out L4.out rfl (by omega) (.slice (some ⟨b75, 0, none⟩) 0 0) 0 ([]) (by rfl) (H2.out.row 0 rfl) am mn.length cm (mn.map rk) (by rfl) (by have h := HL.out.below H2.out.below; rw [List.length_map, casts_map] at h; exact h) (by first | (simp [Value.oneCell']; done) | exact fun u hu => by obtain ⟨z, _, rfl⟩ := List.mem_map.1 hu; rfl) (by unfold maxLen; omega) (by omega) ?_
        intro v' wq3 hown4 hgrow4 hat4
        have hown5 : wq3.ownsRow 0 3 1 v' (mn.length) ((mn).map rk) := by rw [Nat.zero_add] at hown4; exact hown4
        have M4 := H2.out.grow 0 rfl hgrow4 hown5 hat4
        obtain ⟨a77, c77, rfl, _⟩ := M4.val 0 rfl
        have H3 := Tre.hid M4
        clear M4 hown4 hown5 hgrow4 hat4
        (try dsimp only)
        refine hK.out _ _ ?_ (fun hH12 => ?_)
        · exact H3.out.two 5 rfl
        clear hK K hH11
        try simp only [Act.put, List.setIfInBounds_toArray, List.set_cons_zero, List.set_cons_succ]
        refine lOne 6 (by kernel_rfl) (LStep.op (fun K hK => ?_))
        simp only [List.getElem?_toArray, List.getElem?_cons_succ, List.getElem?_cons_zero]
        rw [if_pos (by rfl)]
        refine wp_append_row _ _ _ 25 (by rfl) 3 ji _ 1 8 Try.underlying25 L1.out L2.out L3.out L4.out rfl (by omega) (.slice a77 mn.length c77) mn.length (mn.map rk) (by rfl) (H3.out.row 0 rfl) (some ⟨b79, 0, none⟩) 1 1 ([.int .i64 (mr : Int)]) (by rfl) (⟨rfl, fun j u hj => ⟨_, 0, rfl, by rw [Nat.zero_add]; exact H3.out.cellAt 1 rfl j hj⟩⟩) (by first | (simp [Value.oneCell']; done) | exact fun u hu => by obtain ⟨z, _, rfl⟩ := List.mem_map.1 hu; rfl) (by unfold maxLen; omega) (by omega) ?_
        intro v' wq4 hown4 hgrow4 hat4
        have hown5 : wq4.ownsRow 0 3 1 v' (mn.length + 1) ((mn ++ [mr]).map rk) := by rw [List.map_append]; exact hown4
        have M4 := H3.out.grow 0 rfl hgrow4 hown5 hat4
        obtain ⟨a80, c80, rfl, _⟩ := M4.val 0 rfl
        have H4 := Tre.hid M4
        clear M4 hown4 hown5 hgrow4 hat4
        (try dsimp only)
        refine hK.out _ _ ?_ (fun hH13 => ?_)
        · exact H4.out.two 5 rfl
        clear hK K hH12
        try simp only [Act.put, List.setIfInBounds_toArray, List.set_cons_zero, List.set_cons_succ]
        refine lOne 7 (by kernel_rfl) (LStep.op (fun K hK => ?_))
        go_simp
        have CF := fixed_ok a ca g a80 c80 (mn ++ [mr]) wq4 (HG.out.below H4.out.below) C0.out (by omega) (ints_rowG (H4.out.row 0 rfl)) (fun m hm => by rcases List.mem_append.1 hm with hm | hm; exact HLM.out m hm; simp at hm; rw [hm]; exact hmr) (by simp; omega) (HM.out.below H4.out.below)
        rw [show (mn ++ [mr]).length = mn.length + 1 by simp] at CF
        refine CF.mono ?_
        clear CF
        rintro e wq5 ⟨vq, rfl, mq⟩
        have H5 := Tre.hid (H4.out.call mq)
        clear mq
        (try dsimp only)
        refine hK.out _ _ ?_ (fun hH14 => ?_)
        · exact H5.out.two 6 rfl
        clear hK K hH13
        try simp only [Act.put, List.setIfInBounds_toArray, List.set_cons_zero, List.set_cons_succ]
        refine lPure (i := 8) (some 73) (v := ?_) (by rfl) (by kernel_rfl) (by kernel_rfl) (by kernel_rfl) (by kernel_rfl) (fun _ _ _ h => h) (by rfl) ?_ (keep_of hH14) ?_
        rotate_left
        · intro w; simp only [List.getElem?_toArray, List.getElem?_cons_succ, List.getElem?_cons_zero, Option.map_some, Option.some.injEq]; (first | (go_simp; done) | (go_simp; with_reducible rfl))
        try simp only [Act.put, List.setIfInBounds_toArray, List.set_cons_zero, List.set_cons_succ]
        refine lPure (i := 9) (some 82) (v := ?_) (by rfl) (by kernel_rfl) (by kernel_rfl) (by kernel_rfl) (by kernel_rfl) (fun _ _ _ h => h) (by rfl) ?_ (keep_of hH14) ?_
        rotate_left
        · intro w; simp only [List.getElem?_toArray, List.getElem?_cons_succ, List.getElem?_cons_zero, Option.map_some, Option.some.injEq]; (first | (go_simp; done) | (go_simp; with_reducible rfl))
        try simp only [Act.put, List.setIfInBounds_toArray, List.set_cons_zero, List.set_cons_succ]
        refine lPure (i := 10) (some 83) (v := ?_) (by rfl) (by kernel_rfl) (by kernel_rfl) (by kernel_rfl) (by kernel_rfl) (fun _ _ _ h => h) (by rfl) ?_ (keep_of hH14) ?_
        rotate_left
        · intro w; simp only [List.getElem?_toArray, List.getElem?_cons_succ, List.getElem?_cons_zero, Option.map_some, Option.some.injEq]; (first | (go_simp; done) | (go_simp; with_reducible rfl))
        try simp only [Act.put, List.setIfInBounds_toArray, List.set_cons_zero, List.set_cons_succ]
        refine lPure (i := 11) (some 13) (v := ?_) (by rfl) (by kernel_rfl) (by kernel_rfl) (by kernel_rfl) (by kernel_rfl) (fun _ _ _ h => h) (by rfl) ?_ (keep_of hH14) ?_
        rotate_left
        · intro w; simp only [List.getElem?_toArray, List.getElem?_cons_succ, List.getElem?_cons_zero, Option.map_some, Option.some.injEq]; (first | (go_simp; done) | (go_simp; with_reducible rfl))
        try simp only [Act.put, List.setIfInBounds_toArray, List.set_cons_zero, List.set_cons_succ]
        refine lPure (i := 12) (some 14) (v := ?_) (by rfl) (by kernel_rfl) (by kernel_rfl) (by kernel_rfl) (by kernel_rfl) (fun _ _ _ h => h) (by rfl) ?_ (keep_of hH14) ?_
        rotate_left
        · intro w; simp only [List.getElem?_toArray, List.getElem?_cons_succ, List.getElem?_cons_zero, Option.map_some, Option.some.injEq]; (first | (go_simp; done) | (go_simp; with_reducible rfl))
        try simp only [Act.put, List.setIfInBounds_toArray, List.set_cons_zero, List.set_cons_succ]
        refine lDone (by kernel_rfl) ?_
        clear hH14
        go_wp2_with fail
        go_meet
        exact ⟨vq, rfl, ((((((((H5.out.front 2 rfl).front 2 rfl).front 6 rfl).front 6 rfl).front 6 rfl).front 6 rfl).front 6 rfl)).sub (by simp)⟩
    case rest =>
      obtain ⟨vD, rfl, hN⟩ := hcut
      obtain ⟨wd, rfl⟩ : ∃ wd : World, wd = wc := ⟨_, rfl⟩
      obtain ⟨aD, cD, rfl, _⟩ := hN.out.val 0 rfl
      go_upto_region 12 with fail
      go_cut [16] (fun s16 wx => ∃ vT : Value, s16 = vT ∧ Hid (Mem w wx [rowR 3 1 vT (g.fixedL (mn ++ mn)).length ((g.fixedL (mn ++ mn)).map rk), rowR 3 1 (.slice aD (g.fixedL (mn ++ [mr])).length cD) (g.fixedL (mn ++ [mr])).length ((g.fixedL (mn ++ [mr])).map rk), rowR 3 1 (.slice aC (g.genericL (mr :: mn)).length cC) (g.genericL (mr :: mn)).length ((g.genericL (mr :: mn)).map rk), rowR 3 1 (.slice aB (g.fixedL mn).length cB) (g.fixedL mn).length ((g.fixedL mn).map rk), rowR 3 1 (.slice aA (g.genericL mn).length cA) (g.genericL mn).length ((g.genericL mn).map rk), cellsR w.heap.size 24 #[.slice a g.ns.length ca, .int .i64 g.root]]))
      case first =>
        refine wp_region_keep (S := (fun w' => w'.cell? ⟨w.heap.size, 0, none⟩ = some (.slice a g.ns.length ca) ∧ w'.cell? ⟨w.heap.size, 1, none⟩ = some (.int .i64 g.root))) [] (by kernel_rfl) ?_ (fun hH0 => ?_)
        · exact hN.out.drew.two 4 rfl
        have H0 := Tre.hid hN.out.drew
        generalize hq : wd.drew = wq0 at H0 hH0 ⊢
        clear hq
        refine lPure (i := 2) (some 87) (v := ?_) (by rfl) (by kernel_rfl) (by kernel_rfl) (by kernel_rfl) (by kernel_rfl) (fun _ _ _ h => h) (by rfl) ?_ (keep_of hH0) ?_
        rotate_left
        · intro w; simp only [List.getElem?_toArray, List.getElem?_cons_succ, List.getElem?_cons_zero, Option.map_some, Option.some.injEq]; (first | (go_simp; done) | (go_simp; with_reducible rfl))
        try simp only [Act.put, List.setIfInBounds_toArray, List.set_cons_zero, List.set_cons_succ]
        refine lPure (i := 4) (some 89) (v := ?_) (by rfl) (by kernel_rfl) (by kernel_rfl) (by kernel_rfl) (by kernel_rfl) (fun _ _ _ h => h) (by rfl) ?_ (keep_of hH0) ?_
        rotate_left
        · intro w; simp only [List.getElem?_toArray, List.getElem?_cons_succ, List.getElem?_cons_zero, Option.map_some, Option.some.injEq]; (first | (go_simp; done) | (go_simp; with_reducible rfl))
        try simp only [Act.put, List.setIfInBounds_toArray, List.set_cons_zero, List.set_cons_succ]
        refine lTake (i := 0) (some 85) (v := ?_) (by rfl) (by kernel_rfl) (by kernel_rfl) (by kernel_rfl) (by kernel_rfl) (by kernel_rfl) (fun _ _ _ h => h) (by rfl) ?_ hH0 ?_
        rotate_left
        · intro w hSw; (try dsimp only at hSw); simp only [List.getElem?_toArray, List.getElem?_cons_zero, Option.map_some, Option.some.injEq]; (first | (go_simp; done) | (go_simp; with_reducible rfl))
        try simp only [Act.put, List.setIfInBounds_toArray, List.set_cons_zero, List.set_cons_succ]
        refine lOne 1 (by kernel_rfl) (LStep.op (fun K hK => ?_))
        go_simp
        have H1 := Tre.hid (H0.out.allocRow #[] 3 1 0 (by unfold maxLen; omega) rfl)
        generalize hb : wq0.heap.size = b86 at H1 ⊢
        generalize hw : wq0.alloc (.cells #[] 3) = wq1 at H1 ⊢
        clear hb hw
        refine hK.out _ _ ?_ (fun hH1 => ?_)
        · exact H1.out.two 5 rfl
        clear hK K hH0
        try simp only [Act.put, List.setIfInBounds_toArray, List.set_cons_zero, List.set_cons_succ]
        refine lOne 3 (by kernel_rfl) (LStep.op (fun K hK => ?_))
        simp only [List.getElem?_toArray, List.getElem?_cons_succ, List.getElem?_cons_zero]
        rw [if_pos (by rfl)]
        refine wp_append_row _ _ _ 25 (by rfl) 3 ji _ 1 8 Try.underlying25 L1.out L2.out L3.out L4.out rfl (by omega) (.slice (some ⟨b86, 0, none⟩) 0 0) 0 ([]) (by rfl) (H1.out.row 0 rfl) am mn.length cm (mn.map rk) (by rfl) (by have h := HL.out.below H1.out.below; rw [List.length_map, casts_map] at h; exact h) (by first | (simp [Value.oneCell']; done) | exact fun u hu => by obtain ⟨z, _, rfl⟩ := List.mem_map.1 hu; rfl) (by unfold maxLen; omega) (by omega) ?_
        intro v' wq2 hown4 hgrow4 hat4
        have hown5 : wq2.ownsRow 0 3 1 v' (mn.length) ((mn).map rk) := by rw [Nat.zero_add] at hown4; exact hown4
        have M4 := H1.out.grow 0 rfl hgrow4 hown5 hat4
        obtain ⟨a88, c88, rfl, _⟩ := M4.val 0 rfl
        have H2 := Tre.hid M4
        clear M4 hown4 hown5 hgrow4 hat4
        (try dsimp only)
        refine hK.out _ _ ?_ (fun hH2 => ?_)
        · exact H2.out.two 5 rfl
        clear hK K hH1
        try simp only [Act.put, List.setIfInBounds_toArray, List.set_cons_zero, List.set_cons_succ]
        refine lOne 5 (by kernel_rfl) (LStep.op (fun K hK => ?_))
        simp only [List.getElem?_toArray, List.getElem?_cons_succ, List.getElem?_cons_zero]
        rw [if_pos (by rfl)]
        refine wp_append_row _ _ _ 25 (by rfl) 3 ji _ 1 8 Try.underlying25 L1.out L2.out L3.out L4.out rfl (by omega) (.slice a88 mn.length c88) mn.length (mn.map rk) (by rfl) (H2.out.row 0 rfl) am mn.length cm (mn.map rk) (by rfl) (by have h := HL.out.below H2.out.below; rw [List.length_map, casts_map] at h; exact h) (by first | (simp [Value.oneCell']; done) | exact fun u hu => by obtain ⟨z, _, rfl⟩ := List.mem_map.1 hu; rfl) (by unfold maxLen; omega) (by omega) ?_
        intro v' wq3 hown4 hgrow4 hat4
        have hown5 : wq3.ownsRow 0 3 1 v' (mn.length + mn.length) ((mn ++ mn).map rk) := by rw [List.map_append]; exact hown4
        have M4 := H2.out.grow 0 rfl hgrow4 hown5 hat4
        obtain ⟨a90, c90, rfl, _⟩ := M4.val 0 rfl
        have H3 := Tre.hid M4
        clear M4 hown4 hown5 hgrow4 hat4
        (try dsimp only)
        refine hK.out _ _ ?_ (fun hH3 => ?_)
        · exact H3.out.two 5 rfl
        clear hK K hH2
        try simp only [Act.put, List.setIfInBounds_toArray, List.set_cons_zero, List.set_cons_succ]
        refine lOne 6 (by kernel_rfl) (LStep.op (fun K hK => ?_))
        go_simp
        have CF := fixed_ok a ca g a90 c90 (mn ++ mn) wq3 (HG.out.below H3.out.below) C0.out (by omega) (ints_rowG (H3.out.row 0 rfl)) (fun m hm => by rcases List.mem_append.1 hm with hm | hm <;> exact HLM.out m hm) (by simp; omega) (HM.out.below H3.out.below)
        rw [show (mn ++ mn).length = mn.length + mn.length by simp] at CF
        refine CF.mono ?_
        clear CF
        rintro e wq4 ⟨vq, rfl, mq⟩
        have H4 := Tre.hid (H3.out.call mq)
        clear mq
        (try dsimp only)
        refine hK.out _ _ ?_ (fun hH4 => ?_)
        · exact H4.out.two 6 rfl
        clear hK K hH3
        try simp only [Act.put, List.setIfInBounds_toArray, List.set_cons_zero, List.set_cons_succ]
        refine lPure (i := 7) (some 84) (v := ?_) (by rfl) (by kernel_rfl) (by kernel_rfl) (by kernel_rfl) (by kernel_rfl) (fun _ _ _ h => h) (by rfl) ?_ (keep_of hH4) ?_
        rotate_left
        · intro w; simp only [List.getElem?_toArray, List.getElem?_cons_succ, List.getElem?_cons_zero, Option.map_some, Option.some.injEq]; (first | (go_simp; done) | (go_simp; with_reducible rfl))
        try simp only [Act.put, List.setIfInBounds_toArray, List.set_cons_zero, List.set_cons_succ]
        refine lPure (i := 8) (some 92) (v := ?_) (by rfl) (by kernel_rfl) (by kernel_rfl) (by kernel_rfl) (by kernel_rfl) (fun _ _ _ h => h) (by rfl) ?_ (keep_of hH4) ?_
        rotate_left
        · intro w; simp only [List.getElem?_toArray, List.getElem?_cons_succ, List.getElem?_cons_zero, Option.map_some, Option.some.injEq]; (first | (go_simp; done) | (go_simp; with_reducible rfl))
        try simp only [Act.put, List.setIfInBounds_toArray, List.set_cons_zero, List.set_cons_succ]
        refine lPure (i := 9) (some 93) (v := ?_) (by rfl) (by kernel_rfl) (by kernel_rfl) (by kernel_rfl) (by kernel_rfl) (fun _ _ _ h => h) (by rfl) ?_ (keep_of hH4) ?_
        rotate_left
        · intro w; simp only [List.getElem?_toArray, List.getElem?_cons_succ, List.getElem?_cons_zero, Option.map_some, Option.some.injEq]; (first | (go_simp; done) | (go_simp; with_reducible rfl))
        try simp only [Act.put, List.setIfInBounds_toArray, List.set_cons_zero, List.set_cons_succ]
        refine lPure (i := 10) (some 16) (v := ?_) (by rfl) (by kernel_rfl) (by kernel_rfl) (by kernel_rfl) (by kernel_rfl) (fun _ _ _ h => h) (by rfl) ?_ (keep_of hH4) ?_
        rotate_left
        · intro w; simp only [List.getElem?_toArray, List.getElem?_cons_succ, List.getElem?_cons_zero, Option.map_some, Option.some.injEq]; (first | (go_simp; done) | (go_simp; with_reducible rfl))
        try simp only [Act.put, List.setIfInBounds_toArray, List.set_cons_zero, List.set_cons_succ]
        refine lPure (i := 11) (some 17) (v := ?_) (by rfl) (by kernel_rfl) (by kernel_rfl) (by kernel_rfl) (by kernel_rfl) (fun _ _ _ h => h) (by rfl) ?_ (keep_of hH4) ?_
        rotate_left
        · intro w; simp only [List.getElem?_toArray, List.getElem?_cons_succ, List.getElem?_cons_zero, Option.map_some, Option.some.injEq]; (first | (go_simp; done) | (go_simp; with_reducible rfl))
        try simp only [Act.put, List.setIfInBounds_toArray, List.set_cons_zero, List.set_cons_succ]
        refine lDone (by kernel_rfl) ?_
        clear hH4
        go_wp2_with fail
        go_meet
        exact ⟨vq, rfl, ((((((((H4.out.front 1 rfl).front 6 rfl).front 6 rfl).front 6 rfl).front 6 rfl).front 6 rfl).front 6 rfl)).sub (by simp)⟩
      case rest =>
        obtain ⟨vT, rfl, hO⟩ := hcut
        obtain ⟨we, rfl⟩ : ∃ we : World, we = wc := ⟨_, rfl⟩
        obtain ⟨aT, cT, rfl, _⟩ := hO.out.val 0 rfl
        have HGB : ∀ l : List Nat, ∀ x ∈ g.genericL l, x ≤ 8388608 := fun l x hx => by have := List.mem_range.1 (List.mem_filter.1 hx).1; omega
        have HFB : ∀ l : List Nat, ∀ x ∈ g.fixedL l, x ≤ 8388608 := fun l x hx => by have := List.mem_range.1 (List.mem_filter.1 hx).1; omega
        have HGL : ∀ l : List Nat, (g.genericL l).length ≤ 8388608 := fun l => by have h := List.length_filter_le (fun i => freeB (g.nd i) && (!g.markB l i && g.markB [g.root.toNat] i)) (List.range g.ns.length); rw [List.length_range] at h; show (List.filter _ _).length ≤ _; omega
        have HFL : ∀ l : List Nat, (g.fixedL l).length ≤ 8388608 := fun l => by have h := List.length_filter_le (fun i => freeB (g.nd i) && g.markB l i) (List.range g.ns.length); rw [List.length_range] at h; show (List.filter _ _).length ≤ _; omega
        have W1 := Tre.hid (within_any aC aA cC cA (g.genericL (mr :: mn)) (g.genericL mn) we (ints_rowG (hO.out.row 2 rfl)) (ints_rowG (hO.out.row 4 rfl)) (HGB _) (HGB _) (HGL _) (HGL _) (generic_more C0.out hmr HLM.out))
        have W2 := Tre.hid (fun (W : World) (h : Mem w W [rowR 3 1 (.slice aT (g.fixedL (mn ++ mn)).length cT) (g.fixedL (mn ++ mn)).length ((g.fixedL (mn ++ mn)).map rk), rowR 3 1 (.slice aD (g.fixedL (mn ++ [mr])).length cD) (g.fixedL (mn ++ [mr])).length ((g.fixedL (mn ++ [mr])).map rk), rowR 3 1 (.slice aC (g.genericL (mr :: mn)).length cC) (g.genericL (mr :: mn)).length ((g.genericL (mr :: mn)).map rk), rowR 3 1 (.slice aB (g.fixedL mn).length cB) (g.fixedL mn).length ((g.fixedL mn).map rk), rowR 3 1 (.slice aA (g.genericL mn).length cA) (g.genericL mn).length ((g.genericL mn).map rk), cellsR w.heap.size 24 #[.slice a g.ns.length ca, .int .i64 g.root]]) => within_any aB aD cB cD (g.fixedL mn) (g.fixedL (mn ++ [mr])) W (ints_rowG (h.row 3 rfl)) (ints_rowG (h.row 1 rfl)) (HFB _) (HFB _) (HFL _) (HFL _) (fixed_more C0.out hmr HLM.out))
        have W3 := Tre.hid (fun (W : World) (h : Mem w W [rowR 3 1 (.slice aT (g.fixedL (mn ++ mn)).length cT) (g.fixedL (mn ++ mn)).length ((g.fixedL (mn ++ mn)).map rk), rowR 3 1 (.slice aD (g.fixedL (mn ++ [mr])).length cD) (g.fixedL (mn ++ [mr])).length ((g.fixedL (mn ++ [mr])).map rk), rowR 3 1 (.slice aC (g.genericL (mr :: mn)).length cC) (g.genericL (mr :: mn)).length ((g.genericL (mr :: mn)).map rk), rowR 3 1 (.slice aB (g.fixedL mn).length cB) (g.fixedL mn).length ((g.fixedL mn).map rk), rowR 3 1 (.slice aA (g.genericL mn).length cA) (g.genericL mn).length ((g.genericL mn).map rk), cellsR w.heap.size 24 #[.slice a g.ns.length ca, .int .i64 g.root]]) => by
          have CI := refInts aT aB cT cB ((g.fixedL (mn ++ mn)).map fun k : Nat => (k : Int)) ((g.fixedL mn).map fun k : Nat => (k : Int)) W (ints_rowG (h.row 0 rfl)) (ints_rowG (h.row 3 rfl)) (by rw [List.length_map]; exact HFL _) (by rw [List.length_map]; exact HFL _)
          simp only [List.length_map] at CI
          rw [show (decide (((g.fixedL (mn ++ mn)).map fun k : Nat => (k : Int)) = ((g.fixedL mn).map fun k : Nat => (k : Int)))) = true by rw [fixed_twice C0.out HLM.out]; simp] at CI
          exact CI)
        clear HGB HFB HGL HFL
        go_wp2_with fail
        refine W1.out.mono ?_
        rintro e w6 ⟨rfl, b6⟩
        have HM6 := Tre.hid (hO.out.quiet b6)
        have W2' := Tre.hid (W2.out w6 HM6.out)
        clear b6
        go_wp2_with fail
        refine W2'.out.mono ?_
        rintro e w7 ⟨rfl, b7⟩
        have HM7 := Tre.hid (HM6.out.quiet b7)
        have W3' := Tre.hid (W3.out w7 HM7.out)
        clear b7
        go_wp2_with fail
        refine W3'.out.mono ?_
        rintro e w8 ⟨rfl, b8⟩
        have HM8 := Tre.hid (HM7.out.quiet b8)
        clear b8
        go_wp2_with fail
        go_ret
        exact ⟨rfl, HM8.out.below⟩
theorem moreLaw (a : Option Addr) (ca : Nat) (g : Tre.Graph) (am : Option Addr) (cm : Nat) (mono : List Int) (more : Int) (w : World) (hg : NodesAt w a g.ns) (wg : g.weight ≤ 2097152) (hl : IntsAt w am mono) (hm : MaxAt w) :
    Calls Try.prog 3 #[.agg #[.slice a g.ns.length ca, .int .i64 g.root], .slice am mono.length cm, .int .i64 more] w fun e w' => e = .returned (.bool true) ∧ Below w.heap.size w w' := by
  by_cases hc : g.monoC mono = 0
  · obtain ⟨c0, e, hlt⟩ := mono_of hc
    rw [e] at hl ⊢
    rw [List.length_map]
    exact moreLaw_ok a ca g am cm _ more w hg wg hl hm c0 hlt
  · exact moreLaw_no a ca g am cm mono more w hg wg hl hm hc
end Go.Proofs.Ytlkfhbmjemjohaa.gr
