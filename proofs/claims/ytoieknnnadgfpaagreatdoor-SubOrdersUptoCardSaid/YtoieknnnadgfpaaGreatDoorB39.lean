/- SubOrders: the walk. -/
import Derived.Test.YtoieknnnadgfpaaGreatDoorB36
import Derived.Test.YtoieknnnadgfpaaGreatDoorB00
import Derived.Test.YtoieknnnadgfpaaGreatDoorB38
import Derived.Test.YtoieknnnadgfpaaGreatDoorB09
set_option linter.unusedVariables false
namespace Go.Proofs.YtoieknnnadgfpaaGreatDoor.gr
open Go.RowKit Go.Shelf Go.Maps Go.Tre lex
theorem closedB_iff {g : Tre.Graph} : closedB g = true ↔ g.checkC = 0 ∧ g.freeL.length = 0 := by unfold closedB; rw [Bool.and_eq_true, decide_eq_true_iff, decide_eq_true_iff]
set_option maxRecDepth 100000 in
set_option maxHeartbeats 16000000 in
theorem ordersLaw (a b c : Option Addr) (ca cb cc : Nat) (g h k : Tre.Graph) (w : World) (hg : NodesAt w a g.ns) (hh : NodesAt w b h.ns) (hk : NodesAt w c k.ns) (wg : g.weight ≤ 1048576) (wh : h.weight ≤ 1048576) (wk : k.weight ≤ 1048576) (E : LexEnv w) :
  Calls Tryz.prog 7 #[.agg #[.slice a g.ns.length ca, .int .i64 g.root], .agg #[.slice b h.ns.length cb, .int .i64 h.root], .agg #[.slice c k.ns.length cc, .int .i64 k.root]] w fun e w' => e = .returned (.bool true) ∧ Below w.heap.size w w' := by
 have M := (((Mem.nil w).allocR #[.slice a g.ns.length ca, .int .i64 g.root] 24).allocR #[.slice b h.ns.length cb, .int .i64 h.root] 24).allocR #[.slice c k.ns.length cc, .int .i64 k.root] 24
 simp only [heapSize_alloc] at M
 have HM0 := Tre.hid M
 have HX := Tre.hid E.max
 have HG := Tre.hid hg
 have HH := Tre.hid hh
 have HK := Tre.hid hk
 have HAL := Tre.hid (alive12 _ (E.below M.below))
 clear E hg hh hk M
 go_enter Tryz.func7, Tryz.ntmps7
 go_wp2_with fail
 refine HAL.out.mono ?_
 rintro e w1 ⟨rfl, bq⟩
 have HM1 := Tre.hid (HM0.out.quiet bq)
 clear bq HAL HM0
 obtain ⟨g0, g1⟩ := HM1.out.two 2 rfl
 obtain ⟨h0, h1⟩ := HM1.out.two 1 rfl
 obtain ⟨k0, k1⟩ := HM1.out.two 0 rfl
 go_wp2_with fail
 refine (great.great a ca g _ (by omega) (HG.out.below HM1.out.below)).mono ?_
 rintro e w2 ⟨rfl, bq⟩
 have HM2 := Tre.hid (HM1.out.quiet bq)
 clear bq HM1 g0 g1 h0 h1 k0 k1
 obtain ⟨g0, g1⟩ := HM2.out.two 2 rfl
 obtain ⟨h0, h1⟩ := HM2.out.two 1 rfl
 obtain ⟨k0, k1⟩ := HM2.out.two 0 rfl
 by_cases tg : (200 : Int) < g.great
 ·have t := tg
  go_wp2_with fail
  go_ret
  exact ⟨rfl, HM2.out.below⟩
 have ng : g.ns.length ≤ 200 := by have := g.great_len; omega
 go_wp2_with fail
 refine (great.great b cb h _ (by omega) (HH.out.below HM2.out.below)).mono ?_
 rintro e w3 ⟨rfl, bq⟩
 have HM3 := Tre.hid (HM2.out.quiet bq)
 clear bq HM2 g0 g1 h0 h1 k0 k1
 obtain ⟨g0, g1⟩ := HM3.out.two 2 rfl
 obtain ⟨h0, h1⟩ := HM3.out.two 1 rfl
 obtain ⟨k0, k1⟩ := HM3.out.two 0 rfl
 by_cases th : (200 : Int) < h.great
 ·have t := th
  go_wp2_with fail
  go_ret
  exact ⟨rfl, HM3.out.below⟩
 have nh : h.ns.length ≤ 200 := by have := h.great_len; omega
 go_wp2_with fail
 refine (great.great c cc k _ (by omega) (HK.out.below HM3.out.below)).mono ?_
 rintro e w4 ⟨rfl, bq⟩
 have HM4 := Tre.hid (HM3.out.quiet bq)
 clear bq HM3 g0 g1 h0 h1 k0 k1
 obtain ⟨g0, g1⟩ := HM4.out.two 2 rfl
 obtain ⟨h0, h1⟩ := HM4.out.two 1 rfl
 obtain ⟨k0, k1⟩ := HM4.out.two 0 rfl
 by_cases tk : (200 : Int) < k.great
 ·have t := tk
  go_wp2_with fail
  go_ret
  exact ⟨rfl, HM4.out.below⟩
 have nk : k.ns.length ≤ 200 := by have := k.great_len; omega
 go_wp2_with fail
 refine (closed_any a ca g _ (HG.out.below HM4.out.below) (by omega) (HX.out.below HM4.out.below)).mono ?_
 rintro e w5 ⟨rfl, bq⟩
 have HM5 := Tre.hid (HM4.out.quiet bq)
 clear bq HM4 g0 g1 h0 h1 k0 k1
 obtain ⟨g0, g1⟩ := HM5.out.two 2 rfl
 obtain ⟨h0, h1⟩ := HM5.out.two 1 rfl
 obtain ⟨k0, k1⟩ := HM5.out.two 0 rfl
 obtain ⟨zg, hzg⟩ : ∃ z, closedB g = z := ⟨_, rfl⟩
 have HZg := Tre.hid hzg
 rw [hzg]
 clear hzg
 cases zg with
 | false =>
  go_wp2_with fail
  go_ret
  exact ⟨rfl, HM5.out.below⟩
 | true =>
  go_wp2_with fail
  refine (closed_any b cb h _ (HH.out.below HM5.out.below) (by omega) (HX.out.below HM5.out.below)).mono ?_
  rintro e w6 ⟨rfl, bq⟩
  have HM6 := Tre.hid (HM5.out.quiet bq)
  clear bq HM5 g0 g1 h0 h1 k0 k1
  obtain ⟨g0, g1⟩ := HM6.out.two 2 rfl
  obtain ⟨h0, h1⟩ := HM6.out.two 1 rfl
  obtain ⟨k0, k1⟩ := HM6.out.two 0 rfl
  obtain ⟨zh, hzh⟩ : ∃ z, closedB h = z := ⟨_, rfl⟩
  have HZh := Tre.hid hzh
  rw [hzh]
  clear hzh
  cases zh with
  | false =>
   go_wp2_with fail
   go_ret
   exact ⟨rfl, HM6.out.below⟩
  | true =>
   go_wp2_with fail
   refine (closed_any c cc k _ (HK.out.below HM6.out.below) (by omega) (HX.out.below HM6.out.below)).mono ?_
   rintro e w7 ⟨rfl, bq⟩
   have HM7 := Tre.hid (HM6.out.quiet bq)
   clear bq HM6 g0 g1 h0 h1 k0 k1
   obtain ⟨g0, g1⟩ := HM7.out.two 2 rfl
   obtain ⟨h0, h1⟩ := HM7.out.two 1 rfl
   obtain ⟨k0, k1⟩ := HM7.out.two 0 rfl
   obtain ⟨zk, hzk⟩ : ∃ z, closedB k = z := ⟨_, rfl⟩
   have HZk := Tre.hid hzk
   rw [hzk]
   clear hzk
   cases zk with
   | false =>
    go_wp2_with fail
    go_ret
    exact ⟨rfl, HM7.out.below⟩
   | true =>
    have Cg := closedB_iff.1 HZg.out
    have Ch := closedB_iff.1 HZh.out
    have Ck := closedB_iff.1 HZk.out
    obtain ⟨r1, hr1⟩ : ∃ r, subB g h = r := ⟨_, rfl⟩
    obtain ⟨r2, hr2⟩ : ∃ r, subB h g = r := ⟨_, rfl⟩
    obtain ⟨r3, hr3⟩ : ∃ r, subB h k = r := ⟨_, rfl⟩
    have hrg := sub_refl Cg.1
    have HGG : Hid (∀ W, Below w.heap.size w W → Calls Tryz.prog 12 #[.agg #[.slice a g.ns.length ca, .int .i64 g.root], .agg #[.slice a g.ns.length ca, .int .i64 g.root]] W fun e w' => e = .returned (.bool true) ∧ Below W.heap.size W w') := fun W hW => by
     have K := mays_any a a ca ca g g W (HG.out.below hW) (HG.out.below hW) (by omega) (by omega) (by omega) (by omega) (HX.out.below hW) Cg.1 Cg.1 (shut_of Cg.1 Cg.2) (shut_of Cg.1 Cg.2)
     rw [hrg] at K
     exact K
    have HGH : Hid (∀ W, Below w.heap.size w W → Calls Tryz.prog 12 #[.agg #[.slice a g.ns.length ca, .int .i64 g.root], .agg #[.slice b h.ns.length cb, .int .i64 h.root]] W fun e w' => e = .returned (.bool r1) ∧ Below W.heap.size W w') := fun W hW => by
     have K := mays_any a b ca cb g h W (HG.out.below hW) (HH.out.below hW) (by omega) (by omega) (by omega) (by omega) (HX.out.below hW) Cg.1 Ch.1 (shut_of Cg.1 Cg.2) (shut_of Ch.1 Ch.2)
     rw [hr1] at K
     exact K
    have HHG : Hid (∀ W, Below w.heap.size w W → Calls Tryz.prog 12 #[.agg #[.slice b h.ns.length cb, .int .i64 h.root], .agg #[.slice a g.ns.length ca, .int .i64 g.root]] W fun e w' => e = .returned (.bool r2) ∧ Below W.heap.size W w') := fun W hW => by
     have K := mays_any b a cb ca h g W (HH.out.below hW) (HG.out.below hW) (by omega) (by omega) (by omega) (by omega) (HX.out.below hW) Ch.1 Cg.1 (shut_of Ch.1 Ch.2) (shut_of Cg.1 Cg.2)
     rw [hr2] at K
     exact K
    have HHK : Hid (∀ W, Below w.heap.size w W → Calls Tryz.prog 12 #[.agg #[.slice b h.ns.length cb, .int .i64 h.root], .agg #[.slice c k.ns.length cc, .int .i64 k.root]] W fun e w' => e = .returned (.bool r3) ∧ Below W.heap.size W w') := fun W hW => by
     have K := mays_any b c cb cc h k W (HH.out.below hW) (HK.out.below hW) (by omega) (by omega) (by omega) (by omega) (HX.out.below hW) Ch.1 Ck.1 (shut_of Ch.1 Ch.2) (shut_of Ck.1 Ck.2)
     rw [hr3] at K
     exact K
    have HSA : Hid (∀ W, Below w.heap.size w W → Calls Tryz.prog 17 #[.agg #[.slice a g.ns.length ca, .int .i64 g.root], .agg #[.slice b h.ns.length cb, .int .i64 h.root]] W fun e w' => e = .returned (.bool (r1 && r2)) ∧ Below W.heap.size W w') := fun W hW => by
     have K := same_any a b ca cb g h W (HG.out.below hW) (HH.out.below hW) (by omega) (by omega) (HX.out.below hW)
     have e : sameB g h = (r1 && r2) := by
      have := sub_anti Cg.1 Ch.1 (shut_of Cg.1 Cg.2) (shut_of Ch.1 Ch.2)
      rw [hr1, hr2] at this
      rw [Bool.eq_iff_iff, Bool.and_eq_true, this]
      unfold sameB
      simp
     rw [e] at K
     exact K
    have HGK : Hid (r1 = true → r3 = true → ∀ W, Below w.heap.size w W → Calls Tryz.prog 12 #[.agg #[.slice a g.ns.length ca, .int .i64 g.root], .agg #[.slice c k.ns.length cc, .int .i64 k.root]] W fun e w' => e = .returned (.bool true) ∧ Below W.heap.size W w') := fun e1 e3 W hW => by
     have K := mays_any a c ca cc g k W (HG.out.below hW) (HK.out.below hW) (by omega) (by omega) (by omega) (by omega) (HX.out.below hW) Cg.1 Ck.1 (shut_of Cg.1 Cg.2) (shut_of Ck.1 Ck.2)
     rw [sub_trans Cg.1 Ch.1 Ck.1 (hr1.trans e1) (hr3.trans e3)] at K
     exact K
    clear hr1 hr2 hr3 hrg Cg Ch Ck
    go_upto_region 5 with fail
    clear g0 g1 h0 h1 k0 k1
    cases r1 with
    | false =>
     cases r2 with
     | false =>
      refine wp_region_keep (S := (fun w' => w'.cell? ⟨w.heap.size, 0, none⟩ = some (.slice a g.ns.length ca) ∧ w'.cell? ⟨w.heap.size, 1, none⟩ = some (.int .i64 g.root) ∧ w'.cell? ⟨w.heap.size + 1, 0, none⟩ = some (.slice b h.ns.length cb) ∧ w'.cell? ⟨w.heap.size + 1, 1, none⟩ = some (.int .i64 h.root))) [] (by kernel_rfl) ?_ (fun hH0 => ?_)
      ·exact ⟨HM7.out.drew.cell 2 rfl 0 rfl, HM7.out.drew.cell 2 rfl 1 rfl, HM7.out.drew.cell 1 rfl 0 rfl, HM7.out.drew.cell 1 rfl 1 rfl⟩
      have H0 := Tre.hid HM7.out.drew
      generalize hq : World.drew _ = wq0 at H0 hH0 ⊢
      clear hq
      refine lTake (i := 0) (some 37) (v := ?_) (by rfl) (by kernel_rfl) (by kernel_rfl) (by kernel_rfl) (by kernel_rfl) (by kernel_rfl) (fun _ _ _ h => h) (by rfl) ?_ hH0 ?_
      rotate_left
      ·intro w hSw; (try dsimp only at hSw); simp only [Tre.qa, Tre.qc, Tre.qd, Tre.qe]; go_simp <;> with_reducible rfl
      try simp only [Act.put, Tre.qf, Tre.qg, Tre.qh]
      refine lTake (i := 1) (some 38) (v := ?_) (by rfl) (by kernel_rfl) (by kernel_rfl) (by kernel_rfl) (by kernel_rfl) (by kernel_rfl) (fun _ _ _ h => h) (by rfl) ?_ hH0 ?_
      rotate_left
      ·intro w hSw; (try dsimp only at hSw); simp only [Tre.qa, Tre.qb, Tre.qc, Tre.qd, Tre.qe]; go_simp <;> with_reducible rfl
      try simp only [Act.put, Tre.qf, Tre.qg, Tre.qh]
      refine lOne 2 (by kernel_rfl) (LStep.op (fun K hK => ?_))
      go_simp
      refine (HGG.out _ H0.out.below).mono ?_
      rintro e wq1 ⟨rfl, bq⟩
      have H1 := Tre.hid (H0.out.quiet bq)
      clear bq
      (try dsimp only)
      refine hK.out _ _ ?_ (fun hH1 => ?_)
      ·exact ⟨H1.out.cell 2 rfl 0 rfl, H1.out.cell 2 rfl 1 rfl, H1.out.cell 1 rfl 0 rfl, H1.out.cell 1 rfl 1 rfl⟩
      clear hK K hH0
      try simp only [Act.put, Tre.qf, Tre.qg, Tre.qh]
      refine lPure (i := 3) (some 40) (v := ?_) (by rfl) (by kernel_rfl) (by kernel_rfl) (by kernel_rfl) (by kernel_rfl) (fun _ _ _ h => h) (by rfl) ?_ (keep_of hH1) ?_
      rotate_left
      ·intro w; simp only [Tre.qa, Tre.qb, Tre.qc, Tre.qd, Tre.qe]; go_simp <;> with_reducible rfl
      try simp only [Act.put, Tre.qf, Tre.qg, Tre.qh]
      refine lPure (i := 4) (some 41) (v := ?_) (by rfl) (by kernel_rfl) (by kernel_rfl) (by kernel_rfl) (by kernel_rfl) (fun _ _ _ h => h) (by rfl) ?_ (keep_of hH1) ?_
      rotate_left
      ·intro w; simp only [Tre.qa, Tre.qb, Tre.qc, Tre.qd, Tre.qe]; go_simp <;> with_reducible rfl
      try simp only [Act.put, Tre.qf, Tre.qg, Tre.qh]
      refine lTake (i := 5) (some 42) (v := ?_) (by rfl) (by kernel_rfl) (by kernel_rfl) (by kernel_rfl) (by kernel_rfl) (by kernel_rfl) (fun _ _ _ h => h) (by rfl) ?_ hH1 ?_
      rotate_left
      ·intro w hSw; (try dsimp only at hSw); simp only [Tre.qa, Tre.qb, Tre.qc, Tre.qd, Tre.qe]; go_simp <;> with_reducible rfl
      try simp only [Act.put, Tre.qf, Tre.qg, Tre.qh]
      refine lTake (i := 6) (some 43) (v := ?_) (by rfl) (by kernel_rfl) (by kernel_rfl) (by kernel_rfl) (by kernel_rfl) (by kernel_rfl) (fun _ _ _ h => h) (by rfl) ?_ hH1 ?_
      rotate_left
      ·intro w hSw; (try dsimp only at hSw); simp only [Tre.qa, Tre.qb, Tre.qc, Tre.qd, Tre.qe]; go_simp <;> with_reducible rfl
      try simp only [Act.put, Tre.qf, Tre.qg, Tre.qh]
      refine lTake (i := 13) (some 50) (v := ?_) (by rfl) (by kernel_rfl) (by kernel_rfl) (by kernel_rfl) (by kernel_rfl) (by kernel_rfl) (fun _ _ _ h => h) (by rfl) ?_ hH1 ?_
      rotate_left
      ·intro w hSw; (try dsimp only at hSw); simp only [Tre.qa, Tre.qb, Tre.qc, Tre.qd, Tre.qe]; go_simp <;> with_reducible rfl
      try simp only [Act.put, Tre.qf, Tre.qg, Tre.qh]
      refine lTake (i := 14) (some 51) (v := ?_) (by rfl) (by kernel_rfl) (by kernel_rfl) (by kernel_rfl) (by kernel_rfl) (by kernel_rfl) (fun _ _ _ h => h) (by rfl) ?_ hH1 ?_
      rotate_left
      ·intro w hSw; (try dsimp only at hSw); simp only [Tre.qa, Tre.qb, Tre.qc, Tre.qd, Tre.qe]; go_simp <;> with_reducible rfl
      try simp only [Act.put, Tre.qf, Tre.qg, Tre.qh]
      refine lOne 7 (by kernel_rfl) (LStep.op (fun K hK => ?_))
      go_simp
      refine (HGH.out _ H1.out.below).mono ?_
      rintro e wq2 ⟨rfl, bq⟩
      have H2 := Tre.hid (H1.out.quiet bq)
      clear bq
      (try dsimp only)
      refine hK.out _ _ ?_ (fun hH2 => ?_)
      ·exact ⟨H2.out.cell 2 rfl 0 rfl, H2.out.cell 2 rfl 1 rfl, H2.out.cell 1 rfl 0 rfl, H2.out.cell 1 rfl 1 rfl⟩
      clear hK K hH1
      try simp only [Act.put, Tre.qf, Tre.qg, Tre.qh]
      refine lPure (i := 8) (some 45) (v := ?_) (by rfl) (by kernel_rfl) (by kernel_rfl) (by kernel_rfl) (by kernel_rfl) (fun _ _ _ h => h) (by rfl) ?_ (keep_of hH2) ?_
      rotate_left
      ·intro w; simp only [Tre.qa, Tre.qb, Tre.qc, Tre.qd, Tre.qe]; go_simp <;> with_reducible rfl
      try simp only [Act.put, Tre.qf, Tre.qg, Tre.qh]
      refine lPureNo (i := 9) (some 46) (by rfl) (by kernel_rfl) (by kernel_rfl) (by kernel_rfl) (by kernel_rfl) (fun _ _ _ h => h) (by rfl) (keep_of hH2) ?_
      try simp only [Act.put, Tre.qf, Tre.qg, Tre.qh]
      refine lPureNo (i := 10) (some 47) (by rfl) (by kernel_rfl) (by kernel_rfl) (by kernel_rfl) (by kernel_rfl) (fun _ _ _ h => h) (by rfl) (keep_of hH2) ?_
      try simp only [Act.put, Tre.qf, Tre.qg, Tre.qh]
      refine lPureNo (i := 11) (some 48) (by rfl) (by kernel_rfl) (by kernel_rfl) (by kernel_rfl) (by kernel_rfl) (fun _ _ _ h => h) (by rfl) (keep_of hH2) ?_
      try simp only [Act.put, Tre.qf, Tre.qg, Tre.qh]
      refine lPure (i := 12) (some 49) (v := ?_) (by rfl) (by kernel_rfl) (by kernel_rfl) (by kernel_rfl) (by kernel_rfl) (fun _ _ _ h => h) (by rfl) ?_ (keep_of hH2) ?_
      rotate_left
      ·intro w; simp only [Tre.qa, Tre.qb, Tre.qc, Tre.qd, Tre.qe]; go_simp <;> with_reducible rfl
      try simp only [Act.put, Tre.qf, Tre.qg, Tre.qh]
      refine lOne 15 (by kernel_rfl) (LStep.op (fun K hK => ?_))
      go_simp
      refine (HSA.out _ H2.out.below).mono ?_
      rintro e wq3 ⟨rfl, bq⟩
      have H3 := Tre.hid (H2.out.quiet bq)
      clear bq
      (try dsimp only)
      refine hK.out _ _ ?_ (fun hH3 => ?_)
      ·exact ⟨H3.out.cell 2 rfl 0 rfl, H3.out.cell 2 rfl 1 rfl, H3.out.cell 1 rfl 0 rfl, H3.out.cell 1 rfl 1 rfl⟩
      clear hK K hH2
      try simp only [Act.put, Tre.qf, Tre.qg, Tre.qh]
      refine lPure (i := 16) (some 53) (v := ?_) (by rfl) (by kernel_rfl) (by kernel_rfl) (by kernel_rfl) (by kernel_rfl) (fun _ _ _ h => h) (by rfl) ?_ (keep_of hH3) ?_
      rotate_left
      ·intro w; simp only [Tre.qa, Tre.qb, Tre.qc, Tre.qd, Tre.qe]; go_simp <;> with_reducible rfl
      try simp only [Act.put, Tre.qf, Tre.qg, Tre.qh]
      refine lPure (i := 17) (some 54) (v := ?_) (by rfl) (by kernel_rfl) (by kernel_rfl) (by kernel_rfl) (by kernel_rfl) (fun _ _ _ h => h) (by rfl) ?_ (keep_of hH3) ?_
      rotate_left
      ·intro w; simp only [Tre.qa, Tre.qb, Tre.qc, Tre.qd, Tre.qe]; go_simp <;> with_reducible rfl
      try simp only [Act.put, Tre.qf, Tre.qg, Tre.qh]
      refine lDone (by kernel_rfl) ?_
      clear hH3
      have HT := H3
      obtain ⟨g0, g1⟩ := HT.out.two 2 rfl
      obtain ⟨h0, h1⟩ := HT.out.two 1 rfl
      obtain ⟨k0, k1⟩ := HT.out.two 0 rfl
      go_wp2_with fail
      refine (HGH.out _ HT.out.below).mono ?_
      rintro e wt ⟨rfl, bq⟩
      have HT1 := Tre.hid (HT.out.quiet bq)
      clear bq g0 g1 h0 h1 k0 k1
      go_wp2_with fail
      go_ret
      exact ⟨rfl, HT1.out.below⟩
     | true =>
      refine wp_region_keep (S := (fun w' => w'.cell? ⟨w.heap.size, 0, none⟩ = some (.slice a g.ns.length ca) ∧ w'.cell? ⟨w.heap.size, 1, none⟩ = some (.int .i64 g.root) ∧ w'.cell? ⟨w.heap.size + 1, 0, none⟩ = some (.slice b h.ns.length cb) ∧ w'.cell? ⟨w.heap.size + 1, 1, none⟩ = some (.int .i64 h.root))) [] (by kernel_rfl) ?_ (fun hH0 => ?_)
      ·exact ⟨HM7.out.drew.cell 2 rfl 0 rfl, HM7.out.drew.cell 2 rfl 1 rfl, HM7.out.drew.cell 1 rfl 0 rfl, HM7.out.drew.cell 1 rfl 1 rfl⟩
      have H0 := Tre.hid HM7.out.drew
      generalize hq : World.drew _ = wq0 at H0 hH0 ⊢
      clear hq
      refine lTake (i := 0) (some 37) (v := ?_) (by rfl) (by kernel_rfl) (by kernel_rfl) (by kernel_rfl) (by kernel_rfl) (by kernel_rfl) (fun _ _ _ h => h) (by rfl) ?_ hH0 ?_
      rotate_left
      ·intro w hSw; (try dsimp only at hSw); simp only [Tre.qa, Tre.qc, Tre.qd, Tre.qe]; go_simp <;> with_reducible rfl
      try simp only [Act.put, Tre.qf, Tre.qg, Tre.qh]
      refine lTake (i := 1) (some 38) (v := ?_) (by rfl) (by kernel_rfl) (by kernel_rfl) (by kernel_rfl) (by kernel_rfl) (by kernel_rfl) (fun _ _ _ h => h) (by rfl) ?_ hH0 ?_
      rotate_left
      ·intro w hSw; (try dsimp only at hSw); simp only [Tre.qa, Tre.qb, Tre.qc, Tre.qd, Tre.qe]; go_simp <;> with_reducible rfl
      try simp only [Act.put, Tre.qf, Tre.qg, Tre.qh]
      refine lOne 2 (by kernel_rfl) (LStep.op (fun K hK => ?_))
      go_simp
      refine (HGG.out _ H0.out.below).mono ?_
      rintro e wq1 ⟨rfl, bq⟩
      have H1 := Tre.hid (H0.out.quiet bq)
      clear bq
      (try dsimp only)
      refine hK.out _ _ ?_ (fun hH1 => ?_)
      ·exact ⟨H1.out.cell 2 rfl 0 rfl, H1.out.cell 2 rfl 1 rfl, H1.out.cell 1 rfl 0 rfl, H1.out.cell 1 rfl 1 rfl⟩
      clear hK K hH0
      try simp only [Act.put, Tre.qf, Tre.qg, Tre.qh]
      refine lPure (i := 3) (some 40) (v := ?_) (by rfl) (by kernel_rfl) (by kernel_rfl) (by kernel_rfl) (by kernel_rfl) (fun _ _ _ h => h) (by rfl) ?_ (keep_of hH1) ?_
      rotate_left
      ·intro w; simp only [Tre.qa, Tre.qb, Tre.qc, Tre.qd, Tre.qe]; go_simp <;> with_reducible rfl
      try simp only [Act.put, Tre.qf, Tre.qg, Tre.qh]
      refine lPure (i := 4) (some 41) (v := ?_) (by rfl) (by kernel_rfl) (by kernel_rfl) (by kernel_rfl) (by kernel_rfl) (fun _ _ _ h => h) (by rfl) ?_ (keep_of hH1) ?_
      rotate_left
      ·intro w; simp only [Tre.qa, Tre.qb, Tre.qc, Tre.qd, Tre.qe]; go_simp <;> with_reducible rfl
      try simp only [Act.put, Tre.qf, Tre.qg, Tre.qh]
      refine lTake (i := 5) (some 42) (v := ?_) (by rfl) (by kernel_rfl) (by kernel_rfl) (by kernel_rfl) (by kernel_rfl) (by kernel_rfl) (fun _ _ _ h => h) (by rfl) ?_ hH1 ?_
      rotate_left
      ·intro w hSw; (try dsimp only at hSw); simp only [Tre.qa, Tre.qb, Tre.qc, Tre.qd, Tre.qe]; go_simp <;> with_reducible rfl
      try simp only [Act.put, Tre.qf, Tre.qg, Tre.qh]
      refine lTake (i := 6) (some 43) (v := ?_) (by rfl) (by kernel_rfl) (by kernel_rfl) (by kernel_rfl) (by kernel_rfl) (by kernel_rfl) (fun _ _ _ h => h) (by rfl) ?_ hH1 ?_
      rotate_left
      ·intro w hSw; (try dsimp only at hSw); simp only [Tre.qa, Tre.qb, Tre.qc, Tre.qd, Tre.qe]; go_simp <;> with_reducible rfl
      try simp only [Act.put, Tre.qf, Tre.qg, Tre.qh]
      refine lTake (i := 13) (some 50) (v := ?_) (by rfl) (by kernel_rfl) (by kernel_rfl) (by kernel_rfl) (by kernel_rfl) (by kernel_rfl) (fun _ _ _ h => h) (by rfl) ?_ hH1 ?_
      rotate_left
      ·intro w hSw; (try dsimp only at hSw); simp only [Tre.qa, Tre.qb, Tre.qc, Tre.qd, Tre.qe]; go_simp <;> with_reducible rfl
      try simp only [Act.put, Tre.qf, Tre.qg, Tre.qh]
      refine lTake (i := 14) (some 51) (v := ?_) (by rfl) (by kernel_rfl) (by kernel_rfl) (by kernel_rfl) (by kernel_rfl) (by kernel_rfl) (fun _ _ _ h => h) (by rfl) ?_ hH1 ?_
      rotate_left
      ·intro w hSw; (try dsimp only at hSw); simp only [Tre.qa, Tre.qb, Tre.qc, Tre.qd, Tre.qe]; go_simp <;> with_reducible rfl
      try simp only [Act.put, Tre.qf, Tre.qg, Tre.qh]
      refine lOne 7 (by kernel_rfl) (LStep.op (fun K hK => ?_))
      go_simp
      refine (HGH.out _ H1.out.below).mono ?_
      rintro e wq2 ⟨rfl, bq⟩
      have H2 := Tre.hid (H1.out.quiet bq)
      clear bq
      (try dsimp only)
      refine hK.out _ _ ?_ (fun hH2 => ?_)
      ·exact ⟨H2.out.cell 2 rfl 0 rfl, H2.out.cell 2 rfl 1 rfl, H2.out.cell 1 rfl 0 rfl, H2.out.cell 1 rfl 1 rfl⟩
      clear hK K hH1
      try simp only [Act.put, Tre.qf, Tre.qg, Tre.qh]
      refine lPure (i := 8) (some 45) (v := ?_) (by rfl) (by kernel_rfl) (by kernel_rfl) (by kernel_rfl) (by kernel_rfl) (fun _ _ _ h => h) (by rfl) ?_ (keep_of hH2) ?_
      rotate_left
      ·intro w; simp only [Tre.qa, Tre.qb, Tre.qc, Tre.qd, Tre.qe]; go_simp <;> with_reducible rfl
      try simp only [Act.put, Tre.qf, Tre.qg, Tre.qh]
      refine lPureNo (i := 9) (some 46) (by rfl) (by kernel_rfl) (by kernel_rfl) (by kernel_rfl) (by kernel_rfl) (fun _ _ _ h => h) (by rfl) (keep_of hH2) ?_
      try simp only [Act.put, Tre.qf, Tre.qg, Tre.qh]
      refine lPureNo (i := 10) (some 47) (by rfl) (by kernel_rfl) (by kernel_rfl) (by kernel_rfl) (by kernel_rfl) (fun _ _ _ h => h) (by rfl) (keep_of hH2) ?_
      try simp only [Act.put, Tre.qf, Tre.qg, Tre.qh]
      refine lPureNo (i := 11) (some 48) (by rfl) (by kernel_rfl) (by kernel_rfl) (by kernel_rfl) (by kernel_rfl) (fun _ _ _ h => h) (by rfl) (keep_of hH2) ?_
      try simp only [Act.put, Tre.qf, Tre.qg, Tre.qh]
      refine lPure (i := 12) (some 49) (v := ?_) (by rfl) (by kernel_rfl) (by kernel_rfl) (by kernel_rfl) (by kernel_rfl) (fun _ _ _ h => h) (by rfl) ?_ (keep_of hH2) ?_
      rotate_left
      ·intro w; simp only [Tre.qa, Tre.qb, Tre.qc, Tre.qd, Tre.qe]; go_simp <;> with_reducible rfl
      try simp only [Act.put, Tre.qf, Tre.qg, Tre.qh]
      refine lOne 15 (by kernel_rfl) (LStep.op (fun K hK => ?_))
      go_simp
      refine (HSA.out _ H2.out.below).mono ?_
      rintro e wq3 ⟨rfl, bq⟩
      have H3 := Tre.hid (H2.out.quiet bq)
      clear bq
      (try dsimp only)
      refine hK.out _ _ ?_ (fun hH3 => ?_)
      ·exact ⟨H3.out.cell 2 rfl 0 rfl, H3.out.cell 2 rfl 1 rfl, H3.out.cell 1 rfl 0 rfl, H3.out.cell 1 rfl 1 rfl⟩
      clear hK K hH2
      try simp only [Act.put, Tre.qf, Tre.qg, Tre.qh]
      refine lPure (i := 16) (some 53) (v := ?_) (by rfl) (by kernel_rfl) (by kernel_rfl) (by kernel_rfl) (by kernel_rfl) (fun _ _ _ h => h) (by rfl) ?_ (keep_of hH3) ?_
      rotate_left
      ·intro w; simp only [Tre.qa, Tre.qb, Tre.qc, Tre.qd, Tre.qe]; go_simp <;> with_reducible rfl
      try simp only [Act.put, Tre.qf, Tre.qg, Tre.qh]
      refine lPure (i := 17) (some 54) (v := ?_) (by rfl) (by kernel_rfl) (by kernel_rfl) (by kernel_rfl) (by kernel_rfl) (fun _ _ _ h => h) (by rfl) ?_ (keep_of hH3) ?_
      rotate_left
      ·intro w; simp only [Tre.qa, Tre.qb, Tre.qc, Tre.qd, Tre.qe]; go_simp <;> with_reducible rfl
      try simp only [Act.put, Tre.qf, Tre.qg, Tre.qh]
      refine lDone (by kernel_rfl) ?_
      clear hH3
      have HT := H3
      obtain ⟨g0, g1⟩ := HT.out.two 2 rfl
      obtain ⟨h0, h1⟩ := HT.out.two 1 rfl
      obtain ⟨k0, k1⟩ := HT.out.two 0 rfl
      go_wp2_with fail
      refine (HGH.out _ HT.out.below).mono ?_
      rintro e wt ⟨rfl, bq⟩
      have HT1 := Tre.hid (HT.out.quiet bq)
      clear bq g0 g1 h0 h1 k0 k1
      go_wp2_with fail
      go_ret
      exact ⟨rfl, HT1.out.below⟩
    | true =>
     cases r2 with
     | false =>
      refine wp_region_keep (S := (fun w' => w'.cell? ⟨w.heap.size, 0, none⟩ = some (.slice a g.ns.length ca) ∧ w'.cell? ⟨w.heap.size, 1, none⟩ = some (.int .i64 g.root) ∧ w'.cell? ⟨w.heap.size + 1, 0, none⟩ = some (.slice b h.ns.length cb) ∧ w'.cell? ⟨w.heap.size + 1, 1, none⟩ = some (.int .i64 h.root))) [] (by kernel_rfl) ?_ (fun hH0 => ?_)
      ·exact ⟨HM7.out.drew.cell 2 rfl 0 rfl, HM7.out.drew.cell 2 rfl 1 rfl, HM7.out.drew.cell 1 rfl 0 rfl, HM7.out.drew.cell 1 rfl 1 rfl⟩
      have H0 := Tre.hid HM7.out.drew
      generalize hq : World.drew _ = wq0 at H0 hH0 ⊢
      clear hq
      refine lTake (i := 0) (some 37) (v := ?_) (by rfl) (by kernel_rfl) (by kernel_rfl) (by kernel_rfl) (by kernel_rfl) (by kernel_rfl) (fun _ _ _ h => h) (by rfl) ?_ hH0 ?_
      rotate_left
      ·intro w hSw; (try dsimp only at hSw); simp only [Tre.qa, Tre.qc, Tre.qd, Tre.qe]; go_simp <;> with_reducible rfl
      try simp only [Act.put, Tre.qf, Tre.qg, Tre.qh]
      refine lTake (i := 1) (some 38) (v := ?_) (by rfl) (by kernel_rfl) (by kernel_rfl) (by kernel_rfl) (by kernel_rfl) (by kernel_rfl) (fun _ _ _ h => h) (by rfl) ?_ hH0 ?_
      rotate_left
      ·intro w hSw; (try dsimp only at hSw); simp only [Tre.qa, Tre.qb, Tre.qc, Tre.qd, Tre.qe]; go_simp <;> with_reducible rfl
      try simp only [Act.put, Tre.qf, Tre.qg, Tre.qh]
      refine lOne 2 (by kernel_rfl) (LStep.op (fun K hK => ?_))
      go_simp
      refine (HGG.out _ H0.out.below).mono ?_
      rintro e wq1 ⟨rfl, bq⟩
      have H1 := Tre.hid (H0.out.quiet bq)
      clear bq
      (try dsimp only)
      refine hK.out _ _ ?_ (fun hH1 => ?_)
      ·exact ⟨H1.out.cell 2 rfl 0 rfl, H1.out.cell 2 rfl 1 rfl, H1.out.cell 1 rfl 0 rfl, H1.out.cell 1 rfl 1 rfl⟩
      clear hK K hH0
      try simp only [Act.put, Tre.qf, Tre.qg, Tre.qh]
      refine lPure (i := 3) (some 40) (v := ?_) (by rfl) (by kernel_rfl) (by kernel_rfl) (by kernel_rfl) (by kernel_rfl) (fun _ _ _ h => h) (by rfl) ?_ (keep_of hH1) ?_
      rotate_left
      ·intro w; simp only [Tre.qa, Tre.qb, Tre.qc, Tre.qd, Tre.qe]; go_simp <;> with_reducible rfl
      try simp only [Act.put, Tre.qf, Tre.qg, Tre.qh]
      refine lPure (i := 4) (some 41) (v := ?_) (by rfl) (by kernel_rfl) (by kernel_rfl) (by kernel_rfl) (by kernel_rfl) (fun _ _ _ h => h) (by rfl) ?_ (keep_of hH1) ?_
      rotate_left
      ·intro w; simp only [Tre.qa, Tre.qb, Tre.qc, Tre.qd, Tre.qe]; go_simp <;> with_reducible rfl
      try simp only [Act.put, Tre.qf, Tre.qg, Tre.qh]
      refine lTake (i := 5) (some 42) (v := ?_) (by rfl) (by kernel_rfl) (by kernel_rfl) (by kernel_rfl) (by kernel_rfl) (by kernel_rfl) (fun _ _ _ h => h) (by rfl) ?_ hH1 ?_
      rotate_left
      ·intro w hSw; (try dsimp only at hSw); simp only [Tre.qa, Tre.qb, Tre.qc, Tre.qd, Tre.qe]; go_simp <;> with_reducible rfl
      try simp only [Act.put, Tre.qf, Tre.qg, Tre.qh]
      refine lTake (i := 6) (some 43) (v := ?_) (by rfl) (by kernel_rfl) (by kernel_rfl) (by kernel_rfl) (by kernel_rfl) (by kernel_rfl) (fun _ _ _ h => h) (by rfl) ?_ hH1 ?_
      rotate_left
      ·intro w hSw; (try dsimp only at hSw); simp only [Tre.qa, Tre.qb, Tre.qc, Tre.qd, Tre.qe]; go_simp <;> with_reducible rfl
      try simp only [Act.put, Tre.qf, Tre.qg, Tre.qh]
      refine lTake (i := 13) (some 50) (v := ?_) (by rfl) (by kernel_rfl) (by kernel_rfl) (by kernel_rfl) (by kernel_rfl) (by kernel_rfl) (fun _ _ _ h => h) (by rfl) ?_ hH1 ?_
      rotate_left
      ·intro w hSw; (try dsimp only at hSw); simp only [Tre.qa, Tre.qb, Tre.qc, Tre.qd, Tre.qe]; go_simp <;> with_reducible rfl
      try simp only [Act.put, Tre.qf, Tre.qg, Tre.qh]
      refine lTake (i := 14) (some 51) (v := ?_) (by rfl) (by kernel_rfl) (by kernel_rfl) (by kernel_rfl) (by kernel_rfl) (by kernel_rfl) (fun _ _ _ h => h) (by rfl) ?_ hH1 ?_
      rotate_left
      ·intro w hSw; (try dsimp only at hSw); simp only [Tre.qa, Tre.qb, Tre.qc, Tre.qd, Tre.qe]; go_simp <;> with_reducible rfl
      try simp only [Act.put, Tre.qf, Tre.qg, Tre.qh]
      refine lOne 7 (by kernel_rfl) (LStep.op (fun K hK => ?_))
      go_simp
      refine (HGH.out _ H1.out.below).mono ?_
      rintro e wq2 ⟨rfl, bq⟩
      have H2 := Tre.hid (H1.out.quiet bq)
      clear bq
      (try dsimp only)
      refine hK.out _ _ ?_ (fun hH2 => ?_)
      ·exact ⟨H2.out.cell 2 rfl 0 rfl, H2.out.cell 2 rfl 1 rfl, H2.out.cell 1 rfl 0 rfl, H2.out.cell 1 rfl 1 rfl⟩
      clear hK K hH1
      try simp only [Act.put, Tre.qf, Tre.qg, Tre.qh]
      refine lPure (i := 8) (some 45) (v := ?_) (by rfl) (by kernel_rfl) (by kernel_rfl) (by kernel_rfl) (by kernel_rfl) (fun _ _ _ h => h) (by rfl) ?_ (keep_of hH2) ?_
      rotate_left
      ·intro w; simp only [Tre.qa, Tre.qb, Tre.qc, Tre.qd, Tre.qe]; go_simp <;> with_reducible rfl
      try simp only [Act.put, Tre.qf, Tre.qg, Tre.qh]
      refine lTake (i := 9) (some 46) (v := ?_) (by rfl) (by kernel_rfl) (by kernel_rfl) (by kernel_rfl) (by kernel_rfl) (by kernel_rfl) (fun _ _ _ h => h) (by rfl) ?_ hH2 ?_
      rotate_left
      ·intro w hSw; (try dsimp only at hSw); simp only [Tre.qa, Tre.qb, Tre.qc, Tre.qd, Tre.qe]; go_simp <;> with_reducible rfl
      try simp only [Act.put, Tre.qf, Tre.qg, Tre.qh]
      refine lTake (i := 10) (some 47) (v := ?_) (by rfl) (by kernel_rfl) (by kernel_rfl) (by kernel_rfl) (by kernel_rfl) (by kernel_rfl) (fun _ _ _ h => h) (by rfl) ?_ hH2 ?_
      rotate_left
      ·intro w hSw; (try dsimp only at hSw); simp only [Tre.qa, Tre.qb, Tre.qc, Tre.qd, Tre.qe]; go_simp <;> with_reducible rfl
      try simp only [Act.put, Tre.qf, Tre.qg, Tre.qh]
      refine lOne 11 (by kernel_rfl) (LStep.op (fun K hK => ?_))
      go_simp
      refine (HHG.out _ H2.out.below).mono ?_
      rintro e wq3 ⟨rfl, bq⟩
      have H3 := Tre.hid (H2.out.quiet bq)
      clear bq
      (try dsimp only)
      refine hK.out _ _ ?_ (fun hH3 => ?_)
      ·exact ⟨H3.out.cell 2 rfl 0 rfl, H3.out.cell 2 rfl 1 rfl, H3.out.cell 1 rfl 0 rfl, H3.out.cell 1 rfl 1 rfl⟩
      clear hK K hH2
      try simp only [Act.put, Tre.qf, Tre.qg, Tre.qh]
      refine lPure (i := 12) (some 49) (v := ?_) (by rfl) (by kernel_rfl) (by kernel_rfl) (by kernel_rfl) (by kernel_rfl) (fun _ _ _ h => h) (by rfl) ?_ (keep_of hH3) ?_
      rotate_left
      ·intro w; simp only [Tre.qa, Tre.qb, Tre.qc, Tre.qd, Tre.qe]; go_simp <;> with_reducible rfl
      try simp only [Act.put, Tre.qf, Tre.qg, Tre.qh]
      refine lOne 15 (by kernel_rfl) (LStep.op (fun K hK => ?_))
      go_simp
      refine (HSA.out _ H3.out.below).mono ?_
      rintro e wq4 ⟨rfl, bq⟩
      have H4 := Tre.hid (H3.out.quiet bq)
      clear bq
      (try dsimp only)
      refine hK.out _ _ ?_ (fun hH4 => ?_)
      ·exact ⟨H4.out.cell 2 rfl 0 rfl, H4.out.cell 2 rfl 1 rfl, H4.out.cell 1 rfl 0 rfl, H4.out.cell 1 rfl 1 rfl⟩
      clear hK K hH3
      try simp only [Act.put, Tre.qf, Tre.qg, Tre.qh]
      refine lPure (i := 16) (some 53) (v := ?_) (by rfl) (by kernel_rfl) (by kernel_rfl) (by kernel_rfl) (by kernel_rfl) (fun _ _ _ h => h) (by rfl) ?_ (keep_of hH4) ?_
      rotate_left
      ·intro w; simp only [Tre.qa, Tre.qb, Tre.qc, Tre.qd, Tre.qe]; go_simp <;> with_reducible rfl
      try simp only [Act.put, Tre.qf, Tre.qg, Tre.qh]
      refine lPure (i := 17) (some 54) (v := ?_) (by rfl) (by kernel_rfl) (by kernel_rfl) (by kernel_rfl) (by kernel_rfl) (fun _ _ _ h => h) (by rfl) ?_ (keep_of hH4) ?_
      rotate_left
      ·intro w; simp only [Tre.qa, Tre.qb, Tre.qc, Tre.qd, Tre.qe]; go_simp <;> with_reducible rfl
      try simp only [Act.put, Tre.qf, Tre.qg, Tre.qh]
      refine lDone (by kernel_rfl) ?_
      clear hH4
      have HT := H4
      obtain ⟨g0, g1⟩ := HT.out.two 2 rfl
      obtain ⟨h0, h1⟩ := HT.out.two 1 rfl
      obtain ⟨k0, k1⟩ := HT.out.two 0 rfl
      go_wp2_with fail
      refine (HGH.out _ HT.out.below).mono ?_
      rintro e wt ⟨rfl, bq⟩
      have HT1 := Tre.hid (HT.out.quiet bq)
      clear bq g0 g1 h0 h1 k0 k1
      obtain ⟨g0, g1⟩ := HT1.out.two 2 rfl
      obtain ⟨h0, h1⟩ := HT1.out.two 1 rfl
      obtain ⟨k0, k1⟩ := HT1.out.two 0 rfl
      go_wp2_with fail
      refine (HHK.out _ HT1.out.below).mono ?_
      rintro e wu ⟨rfl, bq⟩
      have HT2 := Tre.hid (HT1.out.quiet bq)
      clear bq g0 g1 h0 h1 k0 k1
      cases r3 with
      | false =>
       go_wp2_with fail
       go_ret
       exact ⟨rfl, HT2.out.below⟩
      | true =>
       obtain ⟨g0, g1⟩ := HT2.out.two 2 rfl
       obtain ⟨h0, h1⟩ := HT2.out.two 1 rfl
       obtain ⟨k0, k1⟩ := HT2.out.two 0 rfl
       go_wp2_with fail
       refine (HGK.out (by simp) (by simp) _ HT2.out.below).mono ?_
       rintro e wv ⟨rfl, bq⟩
       have HT3 := Tre.hid (HT2.out.quiet bq)
       clear bq g0 g1 h0 h1 k0 k1
       go_wp2_with fail
       go_ret
       exact ⟨rfl, HT3.out.below⟩
     | true =>
      refine wp_region_keep (S := (fun w' => w'.cell? ⟨w.heap.size, 0, none⟩ = some (.slice a g.ns.length ca) ∧ w'.cell? ⟨w.heap.size, 1, none⟩ = some (.int .i64 g.root) ∧ w'.cell? ⟨w.heap.size + 1, 0, none⟩ = some (.slice b h.ns.length cb) ∧ w'.cell? ⟨w.heap.size + 1, 1, none⟩ = some (.int .i64 h.root))) [] (by kernel_rfl) ?_ (fun hH0 => ?_)
      ·exact ⟨HM7.out.drew.cell 2 rfl 0 rfl, HM7.out.drew.cell 2 rfl 1 rfl, HM7.out.drew.cell 1 rfl 0 rfl, HM7.out.drew.cell 1 rfl 1 rfl⟩
      have H0 := Tre.hid HM7.out.drew
      generalize hq : World.drew _ = wq0 at H0 hH0 ⊢
      clear hq
      refine lTake (i := 0) (some 37) (v := ?_) (by rfl) (by kernel_rfl) (by kernel_rfl) (by kernel_rfl) (by kernel_rfl) (by kernel_rfl) (fun _ _ _ h => h) (by rfl) ?_ hH0 ?_
      rotate_left
      ·intro w hSw; (try dsimp only at hSw); simp only [Tre.qa, Tre.qc, Tre.qd, Tre.qe]; go_simp <;> with_reducible rfl
      try simp only [Act.put, Tre.qf, Tre.qg, Tre.qh]
      refine lTake (i := 1) (some 38) (v := ?_) (by rfl) (by kernel_rfl) (by kernel_rfl) (by kernel_rfl) (by kernel_rfl) (by kernel_rfl) (fun _ _ _ h => h) (by rfl) ?_ hH0 ?_
      rotate_left
      ·intro w hSw; (try dsimp only at hSw); simp only [Tre.qa, Tre.qb, Tre.qc, Tre.qd, Tre.qe]; go_simp <;> with_reducible rfl
      try simp only [Act.put, Tre.qf, Tre.qg, Tre.qh]
      refine lOne 2 (by kernel_rfl) (LStep.op (fun K hK => ?_))
      go_simp
      refine (HGG.out _ H0.out.below).mono ?_
      rintro e wq1 ⟨rfl, bq⟩
      have H1 := Tre.hid (H0.out.quiet bq)
      clear bq
      (try dsimp only)
      refine hK.out _ _ ?_ (fun hH1 => ?_)
      ·exact ⟨H1.out.cell 2 rfl 0 rfl, H1.out.cell 2 rfl 1 rfl, H1.out.cell 1 rfl 0 rfl, H1.out.cell 1 rfl 1 rfl⟩
      clear hK K hH0
      try simp only [Act.put, Tre.qf, Tre.qg, Tre.qh]
      refine lPure (i := 3) (some 40) (v := ?_) (by rfl) (by kernel_rfl) (by kernel_rfl) (by kernel_rfl) (by kernel_rfl) (fun _ _ _ h => h) (by rfl) ?_ (keep_of hH1) ?_
      rotate_left
      ·intro w; simp only [Tre.qa, Tre.qb, Tre.qc, Tre.qd, Tre.qe]; go_simp <;> with_reducible rfl
      try simp only [Act.put, Tre.qf, Tre.qg, Tre.qh]
      refine lPure (i := 4) (some 41) (v := ?_) (by rfl) (by kernel_rfl) (by kernel_rfl) (by kernel_rfl) (by kernel_rfl) (fun _ _ _ h => h) (by rfl) ?_ (keep_of hH1) ?_
      rotate_left
      ·intro w; simp only [Tre.qa, Tre.qb, Tre.qc, Tre.qd, Tre.qe]; go_simp <;> with_reducible rfl
      try simp only [Act.put, Tre.qf, Tre.qg, Tre.qh]
      refine lTake (i := 5) (some 42) (v := ?_) (by rfl) (by kernel_rfl) (by kernel_rfl) (by kernel_rfl) (by kernel_rfl) (by kernel_rfl) (fun _ _ _ h => h) (by rfl) ?_ hH1 ?_
      rotate_left
      ·intro w hSw; (try dsimp only at hSw); simp only [Tre.qa, Tre.qb, Tre.qc, Tre.qd, Tre.qe]; go_simp <;> with_reducible rfl
      try simp only [Act.put, Tre.qf, Tre.qg, Tre.qh]
      refine lTake (i := 6) (some 43) (v := ?_) (by rfl) (by kernel_rfl) (by kernel_rfl) (by kernel_rfl) (by kernel_rfl) (by kernel_rfl) (fun _ _ _ h => h) (by rfl) ?_ hH1 ?_
      rotate_left
      ·intro w hSw; (try dsimp only at hSw); simp only [Tre.qa, Tre.qb, Tre.qc, Tre.qd, Tre.qe]; go_simp <;> with_reducible rfl
      try simp only [Act.put, Tre.qf, Tre.qg, Tre.qh]
      refine lTake (i := 13) (some 50) (v := ?_) (by rfl) (by kernel_rfl) (by kernel_rfl) (by kernel_rfl) (by kernel_rfl) (by kernel_rfl) (fun _ _ _ h => h) (by rfl) ?_ hH1 ?_
      rotate_left
      ·intro w hSw; (try dsimp only at hSw); simp only [Tre.qa, Tre.qb, Tre.qc, Tre.qd, Tre.qe]; go_simp <;> with_reducible rfl
      try simp only [Act.put, Tre.qf, Tre.qg, Tre.qh]
      refine lTake (i := 14) (some 51) (v := ?_) (by rfl) (by kernel_rfl) (by kernel_rfl) (by kernel_rfl) (by kernel_rfl) (by kernel_rfl) (fun _ _ _ h => h) (by rfl) ?_ hH1 ?_
      rotate_left
      ·intro w hSw; (try dsimp only at hSw); simp only [Tre.qa, Tre.qb, Tre.qc, Tre.qd, Tre.qe]; go_simp <;> with_reducible rfl
      try simp only [Act.put, Tre.qf, Tre.qg, Tre.qh]
      refine lOne 7 (by kernel_rfl) (LStep.op (fun K hK => ?_))
      go_simp
      refine (HGH.out _ H1.out.below).mono ?_
      rintro e wq2 ⟨rfl, bq⟩
      have H2 := Tre.hid (H1.out.quiet bq)
      clear bq
      (try dsimp only)
      refine hK.out _ _ ?_ (fun hH2 => ?_)
      ·exact ⟨H2.out.cell 2 rfl 0 rfl, H2.out.cell 2 rfl 1 rfl, H2.out.cell 1 rfl 0 rfl, H2.out.cell 1 rfl 1 rfl⟩
      clear hK K hH1
      try simp only [Act.put, Tre.qf, Tre.qg, Tre.qh]
      refine lPure (i := 8) (some 45) (v := ?_) (by rfl) (by kernel_rfl) (by kernel_rfl) (by kernel_rfl) (by kernel_rfl) (fun _ _ _ h => h) (by rfl) ?_ (keep_of hH2) ?_
      rotate_left
      ·intro w; simp only [Tre.qa, Tre.qb, Tre.qc, Tre.qd, Tre.qe]; go_simp <;> with_reducible rfl
      try simp only [Act.put, Tre.qf, Tre.qg, Tre.qh]
      refine lTake (i := 9) (some 46) (v := ?_) (by rfl) (by kernel_rfl) (by kernel_rfl) (by kernel_rfl) (by kernel_rfl) (by kernel_rfl) (fun _ _ _ h => h) (by rfl) ?_ hH2 ?_
      rotate_left
      ·intro w hSw; (try dsimp only at hSw); simp only [Tre.qa, Tre.qb, Tre.qc, Tre.qd, Tre.qe]; go_simp <;> with_reducible rfl
      try simp only [Act.put, Tre.qf, Tre.qg, Tre.qh]
      refine lTake (i := 10) (some 47) (v := ?_) (by rfl) (by kernel_rfl) (by kernel_rfl) (by kernel_rfl) (by kernel_rfl) (by kernel_rfl) (fun _ _ _ h => h) (by rfl) ?_ hH2 ?_
      rotate_left
      ·intro w hSw; (try dsimp only at hSw); simp only [Tre.qa, Tre.qb, Tre.qc, Tre.qd, Tre.qe]; go_simp <;> with_reducible rfl
      try simp only [Act.put, Tre.qf, Tre.qg, Tre.qh]
      refine lOne 11 (by kernel_rfl) (LStep.op (fun K hK => ?_))
      go_simp
      refine (HHG.out _ H2.out.below).mono ?_
      rintro e wq3 ⟨rfl, bq⟩
      have H3 := Tre.hid (H2.out.quiet bq)
      clear bq
      (try dsimp only)
      refine hK.out _ _ ?_ (fun hH3 => ?_)
      ·exact ⟨H3.out.cell 2 rfl 0 rfl, H3.out.cell 2 rfl 1 rfl, H3.out.cell 1 rfl 0 rfl, H3.out.cell 1 rfl 1 rfl⟩
      clear hK K hH2
      try simp only [Act.put, Tre.qf, Tre.qg, Tre.qh]
      refine lPure (i := 12) (some 49) (v := ?_) (by rfl) (by kernel_rfl) (by kernel_rfl) (by kernel_rfl) (by kernel_rfl) (fun _ _ _ h => h) (by rfl) ?_ (keep_of hH3) ?_
      rotate_left
      ·intro w; simp only [Tre.qa, Tre.qb, Tre.qc, Tre.qd, Tre.qe]; go_simp <;> with_reducible rfl
      try simp only [Act.put, Tre.qf, Tre.qg, Tre.qh]
      refine lOne 15 (by kernel_rfl) (LStep.op (fun K hK => ?_))
      go_simp
      refine (HSA.out _ H3.out.below).mono ?_
      rintro e wq4 ⟨rfl, bq⟩
      have H4 := Tre.hid (H3.out.quiet bq)
      clear bq
      (try dsimp only)
      refine hK.out _ _ ?_ (fun hH4 => ?_)
      ·exact ⟨H4.out.cell 2 rfl 0 rfl, H4.out.cell 2 rfl 1 rfl, H4.out.cell 1 rfl 0 rfl, H4.out.cell 1 rfl 1 rfl⟩
      clear hK K hH3
      try simp only [Act.put, Tre.qf, Tre.qg, Tre.qh]
      refine lPure (i := 16) (some 53) (v := ?_) (by rfl) (by kernel_rfl) (by kernel_rfl) (by kernel_rfl) (by kernel_rfl) (fun _ _ _ h => h) (by rfl) ?_ (keep_of hH4) ?_
      rotate_left
      ·intro w; simp only [Tre.qa, Tre.qb, Tre.qc, Tre.qd, Tre.qe]; go_simp <;> with_reducible rfl
      try simp only [Act.put, Tre.qf, Tre.qg, Tre.qh]
      refine lPure (i := 17) (some 54) (v := ?_) (by rfl) (by kernel_rfl) (by kernel_rfl) (by kernel_rfl) (by kernel_rfl) (fun _ _ _ h => h) (by rfl) ?_ (keep_of hH4) ?_
      rotate_left
      ·intro w; simp only [Tre.qa, Tre.qb, Tre.qc, Tre.qd, Tre.qe]; go_simp <;> with_reducible rfl
      try simp only [Act.put, Tre.qf, Tre.qg, Tre.qh]
      refine lDone (by kernel_rfl) ?_
      clear hH4
      have HT := H4
      obtain ⟨g0, g1⟩ := HT.out.two 2 rfl
      obtain ⟨h0, h1⟩ := HT.out.two 1 rfl
      obtain ⟨k0, k1⟩ := HT.out.two 0 rfl
      go_wp2_with fail
      refine (HGH.out _ HT.out.below).mono ?_
      rintro e wt ⟨rfl, bq⟩
      have HT1 := Tre.hid (HT.out.quiet bq)
      clear bq g0 g1 h0 h1 k0 k1
      obtain ⟨g0, g1⟩ := HT1.out.two 2 rfl
      obtain ⟨h0, h1⟩ := HT1.out.two 1 rfl
      obtain ⟨k0, k1⟩ := HT1.out.two 0 rfl
      go_wp2_with fail
      refine (HHK.out _ HT1.out.below).mono ?_
      rintro e wu ⟨rfl, bq⟩
      have HT2 := Tre.hid (HT1.out.quiet bq)
      clear bq g0 g1 h0 h1 k0 k1
      cases r3 with
      | false =>
       go_wp2_with fail
       go_ret
       exact ⟨rfl, HT2.out.below⟩
      | true =>
       obtain ⟨g0, g1⟩ := HT2.out.two 2 rfl
       obtain ⟨h0, h1⟩ := HT2.out.two 1 rfl
       obtain ⟨k0, k1⟩ := HT2.out.two 0 rfl
       go_wp2_with fail
       refine (HGK.out (by simp) (by simp) _ HT2.out.below).mono ?_
       rintro e wv ⟨rfl, bq⟩
       have HT3 := Tre.hid (HT2.out.quiet bq)
       clear bq g0 g1 h0 h1 k0 k1
       go_wp2_with fail
       go_ret
       exact ⟨rfl, HT3.out.below⟩

end Go.Proofs.YtoieknnnadgfpaaGreatDoor.gr
