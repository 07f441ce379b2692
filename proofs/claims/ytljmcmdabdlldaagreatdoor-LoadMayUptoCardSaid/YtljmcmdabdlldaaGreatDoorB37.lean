/- LoadMay: the walk. What a row that lists the library's variables tells of the world: what the lexer wants. How an argument that is a graph lies in memory, out of its reading; the wrap for a row with a bound, the world's shape kept. How an argument that is a list of parts lies in memory, out of its reading. -/
import Derived.Test.YtljmcmdabdlldaaGreatDoorB33
import Derived.Test.YtljmcmdabdlldaaGreatDoorB34
import Derived.Test.YtljmcmdabdlldaaGreatDoorB35
import Derived.Test.YtljmcmdabdlldaaGreatDoorB36
import Derived.Test.YtljmcmdabdlldaaGreatDoorB03
import Derived.Test.YtljmcmdabdlldaaGreatDoorB06
import Derived.Test.YtljmcmdabdlldaaGreatDoorB14
import Derived.Test.YtljmcmdabdlldaaGreatDoorRows
import Derived.Lib.LaidTab
import Derived.LaidSub
import Derived.LaidMore
import Derived.LaidHandle
import Derived.LaidLaws
import Derived.WalkKit
import Derived.Test.YtljmcmdabdlldaaGreatDoorB00
import Derived.JoinedCond
import Derived.ChangeSlices
import Derived.SliceStrings
import Derived.Deep.Slices
import Derived.Shelf.Vars
import Derived.Test.YtljmcmdabdlldaaGreatDoorB05
set_option linter.unusedVariables false
namespace Go.Proofs.YtljmcmdabdlldaaGreatDoor.load
open Go.RowKit Go.Shelf Go.Maps Go.Tre lex gr part
set_option maxRecDepth 100000 in
set_option maxHeartbeats 16000000 in
theorem mayLaw (a : Option Addr) (cap : Nat) (l : List Prt) (w : World) (hl : PrtsAt w a l) (hlen : l.length ≤ 1048576) (hcap : l.length ≤ cap) (E : LexEnv w) :
  Calls Tryz.prog 3 #[.slice a l.length cap] w fun e w' => e = .returned (.bool true) ∧ Below w.heap.size w w' := by
 have HX := Tre.hid E.max
 have HPL := Tre.hid hl
 have HA := Tre.hid (alive07 w E)
 clear E hl
 go_enter Tryz.func3, Tryz.ntmps3
 go_wp2_with fail
 refine HA.out.mono ?_
 rintro e w1 ⟨rfl, b1⟩
 have HB1 := Tre.hid b1
 clear b1 HA
 go_wp2_with fail
 refine (great_any a cap l _ (HPL.out.below HB1.out) hlen).mono ?_
 rintro e w2 ⟨rfl, b2⟩
 have HB2 := Tre.hid (HB1.out.trans (b2.mono HB1.out.size))
 clear b2 HB1
 cases hg : greatB l with
 | true =>
  clear hg
  go_wp2_with fail
  go_ret
  exact ⟨rfl, HB2.out⟩
 | false =>
  have hsm := great_small hg
  have HWG : Hid ((ofTy l).weight ≤ 14004) := hsm.1
  have HOF := Tre.hid (of_any w (l.length + 1) l a cap w2 HB2.out (Nat.lt_succ_self _) hlen hcap HPL.out)
  clear hg hsm
  go_wp2_with fail
  refine HOF.out.mono ?_
  rintro e w3 ⟨O, aa, al, ca, cl, a', c', rfl, _, _, m3⟩
  have hty : (ofP (l.length + 1) l).1 = ofTy l := rfl
  rw [hty] at m3 ⊢
  obtain ⟨t, ht⟩ : ∃ t, ofTy l = t := ⟨_, rfl⟩
  rw [ht] at m3 HWG ⊢
  have M3 := (Mem.of_below HB2.out).call m3
  have M4 := M3.allocR #[.int .i64 t.kind, .string ⟨t.s.toArray⟩, .slice aa t.args.length ca, .slice al t.labels.length cl, .bool t.opn] 28
  have HM4 := Tre.hid M4
  obtain ⟨bT, hbT⟩ : ∃ bT, w3.heap.size = bT := ⟨_, rfl⟩
  rw [hbT] at M4 HM4
  have HY := M4.at_ 1 rfl
  have HLD := Tre.hid (Load_any t O _ _ HY.1 HY.2 (by have := HWG.out; omega) (HX.out.below M4.below))
  have x0 := M4.cell 0 rfl 0 rfl
  have x1 := M4.cell 0 rfl 1 rfl
  have x2 := M4.cell 0 rfl 2 rfl
  have x3 := M4.cell 0 rfl 3 rfl
  have x4 := M4.cell 0 rfl 4 rfl
  clear HOF hty ht m3 M3 M4 HY
  generalize (ofP (l.length + 1) l).2 = rest at *
  go_wp2_with fail
  try rw [hbT]
  clear hbT
  refine HLD.out.mono ?_
  intro e w5 hp
  cases hp with
  | no hv he hb =>
   subst he
   have hne : (verdictI (walkT t) == 0) = false := beq_eq_false_iff_ne.2 hv
   have M6 := (HM4.out.quiet hb).allocR #[.slice none 0 0, .int .i64 0] 33
   have g0 := M6.cell 0 rfl 0 rfl
   have HM6 := Tre.hid M6
   clear hv hb M6 HM4 HLD x0 x1 x2 x3 x4
   generalize verdictI (walkT t) = vd at *
   go_wp2_with fail
   go_ret
   exact ⟨rfl, HM6.out.below⟩
  | bad hv hf he hb =>
   subst he
   have M6 := (HM4.out.quiet hb).allocR #[.slice none 0 0, .int .i64 0] 33
   have g0 := M6.cell 0 rfl 0 rfl
   have HM6 := Tre.hid M6
   clear hv hf hb M6 HM4 HLD x0 x1 x2 x3 x4
   go_wp2_with fail
   go_ret
   exact ⟨rfl, HM6.out.below⟩
  | ok hv g hg v ds he hd hm =>
   subst he
   have M5 := HM4.out.call hm
   obtain ⟨aG, cG, rfl, _⟩ := M5.val 0 rfl
   have M6 := M5.allocR #[.slice aG ds.length cG, .int .i64 0] 33
   obtain ⟨bG, hbG⟩ : ∃ bG, w5.heap.size = bG := ⟨_, rfl⟩
   rw [hbG] at M6
   obtain ⟨n, hn⟩ : ∃ n, ds.length = n := ⟨_, rfl⟩
   have hgn : g.trim.ns.length = n := by rw [← hn, ← hd, List.length_map]
   rw [hn] at M6 ⊢
   have M7 : Mem w _ [cellsR bG 33 #[.slice aG n cG, .int .i64 0], nodesR (.slice aG n cG) ds, kidsR ds, cellsR bT 28 #[.int .i64 t.kind, .string ⟨t.s.toArray⟩, .slice aa t.args.length ca, .slice al t.labels.length cl, .bool t.opn], tyR O t (.agg #[.int .i64 t.kind, .string ⟨t.s.toArray⟩, .slice aa t.args.length ca, .slice al t.labels.length cl, .bool t.opn])] := M6
   have HM7 := Tre.hid M7
   have HDS := Tre.hid hd
   have HLL := Tre.hid hgn
   have HV := Tre.hid hv
   have hw := verdict_ok hv
   have hct : t.count ≤ 14004 := Nat.le_trans (count_weight t) HWG.out
   have hvn := vars_names hw (by omega) hg
   have HVN := Tre.hid hvn
   obtain ⟨hck, hgw⟩ : g.checkC = 0 ∧ g.weight ≤ 28008 := by
    obtain ⟨bd, r, st, _, _, hn, rfl⟩ := hg
    have L := loaded_of hn
    refine ⟨L.check hw (by omega), Nat.le_trans L.weight ?_⟩
    have h1 := flat_weight t 0
    have h2 := HWG.out
    have : (flat t 0).map Ent.w = (flat t 0).map fun e => 1 + e.s.length + (e.labels.map fun x => x.length + 1).sum + e.args.length := rfl
    rw [this]; omega
   have HCK : Hid (g.trim.checkC = 0) := trim_ok hck
   have HTT : Hid (g.trim.trim = g.trim) := trim_trim hck
   have HWT : Hid (g.trim.weight ≤ 28008) := Nat.le_trans g.trim_weight hgw
   have hnw : n ≤ 28008 := by rw [← hgn]; exact Nat.le_trans (len_weight g.trim) HWT.out
   have q0 := M7.cell 0 rfl 0 rfl
   have HNS := Tre.hid (show NodesAt _ aG g.trim.ns by have := nodes_read (n := n) (M7.at_ 1 rfl) (M7.at_ 2 rfl); rwa [hd] at this)
   clear hm hd M5 M6 M7 hn hgn hv hw hct hvn hck hgw HM4 HLD x0 x1 x2 x3 x4 hg
   go_wp2_with fail
   try rw [hbG]
   clear q0
   generalize hWW : w5.alloc (.cells #[.slice aG n cG, .int .i64 0] 33) = W at HM7 HNS ⊢
   clear hWW hbG
   have HNW := Tre.hid (fun (wr : World) (hb : Below W.heap.size W wr) => HNS.out.below hb)
   go_loopw [7, 33] (fun v7 v33 wr => ∃ (k : Nat), k ≤ n ∧ v33 = .int .i64 k ∧ v7 = .int .i64 (varsN (g.trim.ns.take k) : Nat) ∧ Hid (NodesAt wr aG g.trim.ns) ∧ Hid (Mem w wr [cellsR bG 33 #[.slice aG n cG, .int .i64 0], nodesR (.slice aG n cG) ds, kidsR ds, cellsR bT 28 #[.int .i64 t.kind, .string ⟨t.s.toArray⟩, .slice aa t.args.length ca, .slice al t.labels.length cl, .bool t.opn], tyR O t (.agg #[.int .i64 t.kind, .string ⟨t.s.toArray⟩, .slice aa t.args.length ca, .slice al t.labels.length cl, .bool t.opn])])) (fun _ v33 _ => n - (intOf v33).toNat)
   case atStart => exact ⟨0, Nat.zero_le _, rfl, by rw [List.take_zero]; rfl, HNS.out, HM7.out⟩
   case round =>
    clear HM7 HNS HNW
    obtain ⟨k, hk, rfl, rfl, HNR, HM⟩ := hrel
    by_cases hlt : k < n
    ·obtain ⟨X, hX⟩ : ∃ X, g.trim.ns[k]? = some X := ⟨_, List.getElem?_eq_getElem (by rw [HLL.out]; exact hlt)⟩
     obtain ⟨b, off, rfl, aA, cA, aL, cL, h0, h1, h2, h3, h4, _⟩ := HNR.out.at_ k X hX
     have hsucc : varsN (g.trim.ns.take (k + 1)) = varsN (g.trim.ns.take k) + (if X.kind = 1 then 1 else 0) := by
      unfold varsN
      rw [List.take_add_one, hX]
      simp [List.countP_append, List.countP_cons]
     have HSU := Tre.hid hsucc
     have hvle : varsN (g.trim.ns.take k) ≤ k := by
      unfold varsN
      exact Nat.le_trans List.countP_le_length (by rw [List.length_take]; omega)
     have M8 := HM.out.allocR #[.int .i64 X.kind, .string X.name, .slice aA X.args.length cA, .slice aL X.labels.length cL, .bool X.isOpen] 39
     have HM8 := Tre.hid M8.drop1
     have HNR8 := Tre.hid (HNR.out.below ((Below.refl wr.heap.size wr).alloc (Nat.le_refl _) (.cells #[.int .i64 X.kind, .string X.name, .slice aA X.args.length cA, .slice aL X.labels.length cL, .bool X.isOpen] 39)))
     have z0 := M8.cell 0 rfl 0 rfl
     generalize varsN (g.trim.ns.take k) = vk at *
     clear hX hsucc M8 HM HNR
     by_cases h1k : X.kind = 1
     ·have ek : (X.kind == 1) = true := by rw [h1k]; rfl
      have HS2 : Hid (varsN (g.trim.ns.take (k + 1)) = vk + 1) := by show _ = _; rw [HSU.out, if_pos h1k]
      clear h1k HSU
      go_wp2_with fail
      go_roundw
      case rel => exact ⟨k + 1, by omega, by go_num, by rw [HS2.out]; go_num, HNR8.out, HM8.out⟩
      case measure => simp [intOf]; omega
     ·have ek : (X.kind == 1) = false := beq_eq_false_iff_ne.2 h1k
      have HS2 : Hid (varsN (g.trim.ns.take (k + 1)) = vk) := by show _ = _; rw [HSU.out, if_neg h1k, Nat.add_zero]
      clear h1k HSU
      go_wp2_with fail
      go_roundw
      case rel => exact ⟨k + 1, by omega, by go_num, by rw [HS2.out], HNR8.out, HM8.out⟩
      case measure => simp [intOf]; omega
    have hkn : n = k := by omega
    subst hkn
    have e1 : g.trim.ns.take n = g.trim.ns := List.take_of_length_le (by rw [HLL.out]; exact Nat.le_refl _)
    rw [e1, HVN.out]
    clear e1 HNR hlt
    obtain ⟨wo, hwo⟩ : ∃ wo : World, wr = wo := ⟨_, rfl⟩
    rw [hwo] at HM ⊢
    clear hwo
    go_wp2_with fail
    have cS : Cond (fun w' => w'.cell? ⟨bG, 0, none⟩ = some (.slice aG n cG) ∧ w'.cell? ⟨bG, 1, none⟩ = some (.int .i64 0) ∧ w'.cell? ⟨bT, 0, none⟩ = some (.int .i64 t.kind) ∧ w'.cell? ⟨bT, 1, none⟩ = some (.string ⟨t.s.toArray⟩) ∧ w'.cell? ⟨bT, 2, none⟩ = some (.slice aa t.args.length ca) ∧ w'.cell? ⟨bT, 3, none⟩ = some (.slice al t.labels.length cl) ∧ w'.cell? ⟨bT, 4, none⟩ = some (.bool t.opn)) := ⟨⟩
    refine cS.keep [] ?_ (fun hH0 => ?_)
    ·exact ⟨HM.out.drew.cell 0 rfl 0 rfl, HM.out.drew.cell 0 rfl 1 rfl, HM.out.drew.cell 3 rfl 0 rfl, HM.out.drew.cell 3 rfl 1 rfl, HM.out.drew.cell 3 rfl 2 rfl, HM.out.drew.cell 3 rfl 3 rfl, HM.out.drew.cell 3 rfl 4 rfl⟩
    have H0 := Tre.hid HM.out.drew
    generalize hq : World.drew _ = wq0 at H0 hH0 ⊢
    clear hq HM
    refine lTq 0 (some 43) (v := ?_) rfl ?_ hH0 ?_
    rotate_left
    ·intro w hSw; (try dsimp only at hSw); go_simp <;> with_reducible rfl
    try simp only [Act.put, zqf, zqg, zqh]
    refine lOne 1 (by kernel_rfl) (LStep.op (fun K hK => ?_))
    go_simp
    have NG := nodes_read (n := n) (H0.out.at_ 1 rfl) (H0.out.at_ 2 rfl)
    rw [HDS.out] at NG
    have CE := check_any aG cG g.trim wq0 NG (by have := HWT.out; omega) (HX.out.below H0.out.below)
    rw [HCK.out, HLL.out] at CE
    refine CE.mono ?_
    rintro e wq1 ⟨rfl, bq⟩
    have H1 := Tre.hid (H0.out.quiet bq)
    clear bq CE NG
    (try dsimp only)
    refine hK.out _ _ ?_ (fun hH1 => ?_)
    ·exact ⟨H1.out.cell 0 rfl 0 rfl, H1.out.cell 0 rfl 1 rfl, H1.out.cell 3 rfl 0 rfl, H1.out.cell 3 rfl 1 rfl, H1.out.cell 3 rfl 2 rfl, H1.out.cell 3 rfl 3 rfl, H1.out.cell 3 rfl 4 rfl⟩
    clear hK K hH0
    try simp only [Act.put, zqf, zqg, zqh]
    refine lPq 2 (some 45) (v := ?_) rfl ?_ (keep_of hH1) ?_
    rotate_left
    ·intro w; go_simp <;> with_reducible rfl
    try simp only [Act.put, zqf, zqg, zqh]
    refine lPq 3 (some 46) (v := ?_) rfl ?_ (keep_of hH1) ?_
    rotate_left
    ·intro w; go_simp <;> with_reducible rfl
    try simp only [Act.put, zqf, zqg, zqh]
    refine lTq 4 (some 47) (v := ?_) rfl ?_ hH1 ?_
    rotate_left
    ·intro w hSw; (try dsimp only at hSw); go_simp <;> with_reducible rfl
    try simp only [Act.put, zqf, zqg, zqh]
    refine lTq 6 (some 49) (v := ?_) rfl ?_ hH1 ?_
    rotate_left
    ·intro w hSw; (try dsimp only at hSw); go_simp <;> with_reducible rfl
    try simp only [Act.put, zqf, zqg, zqh]
    refine lOne 5 (by kernel_rfl) (LStep.op (fun K hK => ?_))
    go_simp
    have NG := nodes_read (n := n) (H1.out.at_ 1 rfl) (H1.out.at_ 2 rfl)
    rw [HDS.out] at NG
    have CE := trim_any aG cG g.trim wq1 NG (by have := HWT.out; omega) (HX.out.below H1.out.below)
    rw [HLL.out] at CE
    refine CE.mono ?_
    rintro e wq2 ⟨v2, d2, rfl, hd2, mq⟩
    rw [HTT.out] at hd2
    have HD2 := Tre.hid hd2
    have H2 := Tre.hid (H1.out.call mq)
    obtain ⟨a2, c2, rfl, _⟩ := H2.out.val 0 rfl
    clear mq CE NG hd2
    (try dsimp only)
    refine hK.out _ _ ?_ (fun hH2 => ?_)
    ·exact ⟨H2.out.cell 2 rfl 0 rfl, H2.out.cell 2 rfl 1 rfl, H2.out.cell 5 rfl 0 rfl, H2.out.cell 5 rfl 1 rfl, H2.out.cell 5 rfl 2 rfl, H2.out.cell 5 rfl 3 rfl, H2.out.cell 5 rfl 4 rfl⟩
    clear hK K hH1
    try simp only [Act.put, zqf, zqg, zqh]
    refine lOne 7 (by kernel_rfl) (LStep.op (fun K hK => ?_))
    go_simp
    have NG := nodes_read (n := n) (H2.out.at_ 3 rfl) (H2.out.at_ 4 rfl)
    rw [HDS.out] at NG
    have N2 := nodes_read (H2.out.at_ 0 rfl) (H2.out.at_ 1 rfl)
    rw [HD2.out] at N2
    have hl2 : d2.length = n := by rw [← HLL.out, ← HD2.out, List.length_map]
    have CE := refEqual a2 aG c2 cG g.trim g.trim wq2 N2 NG (by have := HWT.out; omega) (by have := HWT.out; omega)
    rw [decide_eq_true rfl, HLL.out] at CE
    rw [hl2]
    refine CE.mono ?_
    rintro e wq3 ⟨rfl, bq⟩
    have H3 := Tre.hid (H2.out.quiet bq)
    clear bq CE N2 NG hl2
    (try dsimp only)
    refine hK.out _ _ ?_ (fun hH3 => ?_)
    ·exact ⟨H3.out.cell 2 rfl 0 rfl, H3.out.cell 2 rfl 1 rfl, H3.out.cell 5 rfl 0 rfl, H3.out.cell 5 rfl 1 rfl, H3.out.cell 5 rfl 2 rfl, H3.out.cell 5 rfl 3 rfl, H3.out.cell 5 rfl 4 rfl⟩
    clear hK K hH2
    try simp only [Act.put, zqf, zqg, zqh]
    refine lPq 8 (some 51) (v := ?_) rfl ?_ (keep_of hH3) ?_
    rotate_left
    ·intro w; go_simp <;> with_reducible rfl
    try simp only [Act.put, zqf, zqg, zqh]
    refine lPq 9 (some 52) (v := ?_) rfl ?_ (keep_of hH3) ?_
    rotate_left
    ·intro w; go_simp <;> with_reducible rfl
    try simp only [Act.put, zqf, zqg, zqh]
    refine lPq 10 (some 53) (v := ?_) rfl ?_ (keep_of hH3) ?_
    rotate_left
    ·intro w; go_simp <;> with_reducible rfl
    try simp only [Act.put, zqf, zqg, zqh]
    refine lTq 11 (some 54) (v := ?_) rfl ?_ hH3 ?_
    rotate_left
    ·intro w hSw; (try dsimp only at hSw); go_simp <;> with_reducible rfl
    try simp only [Act.put, zqf, zqg, zqh]
    refine lOne 12 (by kernel_rfl) (LStep.op (fun K hK => ?_))
    go_simp
    have HY := H3.out.at_ 6 rfl
    refine (Names_any t O _ wq3 HY.1 HY.2 HV.out (by have := HWG.out; omega) (HX.out.below H3.out.below)).mono ?_
    rintro e wq4 ⟨aN, cN, rfl, mq⟩
    have H4 := Tre.hid (H3.out.call mq)
    clear mq HY
    (try dsimp only)
    refine hK.out _ _ ?_ (fun hH4 => ?_)
    ·exact ⟨H4.out.cell 3 rfl 0 rfl, H4.out.cell 3 rfl 1 rfl, H4.out.cell 6 rfl 0 rfl, H4.out.cell 6 rfl 1 rfl, H4.out.cell 6 rfl 2 rfl, H4.out.cell 6 rfl 3 rfl, H4.out.cell 6 rfl 4 rfl⟩
    clear hK K hH3
    try simp only [Act.put, zqf, zqg, zqh]
    refine lPq 13 (some 56) (v := ?_) rfl ?_ (keep_of hH4) ?_
    rotate_left
    ·intro w; go_simp <;> with_reducible rfl
    try simp only [Act.put, zqf, zqg, zqh]
    refine lPq 14 (some 57) (v := ?_) rfl ?_ (keep_of hH4) ?_
    rotate_left
    ·intro w; go_simp <;> with_reducible rfl
    try simp only [Act.put, zqf, zqg, zqh]
    refine lPq 15 (some 58) (v := ?_) rfl ?_ (keep_of hH4) ?_
    rotate_left
    ·intro w; go_simp <;> with_reducible rfl
    try simp only [Act.put, zqf, zqg, zqh]
    refine lPq 16 (some 2) (v := ?_) rfl ?_ (keep_of hH4) ?_
    rotate_left
    ·intro w; go_simp <;> with_reducible rfl
    try simp only [Act.put, zqf, zqg, zqh]
    refine lDone (by kernel_rfl) ?_
    clear hH4
    go_wp2_with fail
    go_ret
    exact ⟨rfl, H4.out.below⟩
end Go.Proofs.YtljmcmdabdlldaaGreatDoor.load
namespace Go.Proofs.YtljmcmdabdlldaaGreatDoor.lex
open Go.ChangeShapes Go.WideShapes Go.RowKit Go.Tre
theorem envMax {w : World} (h : w.ShapedOpen Tryz.prog) : MaxAt w :=
 Go.Proofs.cell_of_shapedOpen_int (zero := #[.int .i64 0]) (t := 3) h (of_decide_eq_true (by kernel_rfl)) (by kernel_rfl) rfl (by kernel_rfl) (by kernel_rfl) Tryz.underlying3
def spaceTab : List Int := (List.range 256).map fun c => if spB (UInt8.ofNat c) = true then 1 else 0
theorem spaceData : (Rows.laid_strings_asciiSpace : DataW Unit) = Lib.tabData .u8 spaceTab := by kernel_rfl
theorem envSpace {W : World} {l : List (String × DataW Unit)} (h : laidMetH Tryz.prog l W) (e : l.filter (fun x => x.1 == "strings.asciiSpace") = [("strings.asciiSpace", Rows.laid_strings_asciiSpace)]) : SpaceAt W := by
 have h1 := laidMetH.filter (fun x => x.1 == "strings.asciiSpace") h
 rw [e, spaceData] at h1
 have h2 : Lib.TabIs Tryz.prog W "strings.asciiSpace" .u8 spaceTab :=
  Lib.tabIs_of_head (rest := []) (g := 1) (t := 216) (e := 5) (n := 256) (by kernel_rfl) (by kernel_rfl) Tryz.underlying216 Tryz.underlying5 (by kernel_rfl) (by kernel_rfl) h1
 intro c
 have hc := c.toNat_lt
 have h3 := h2.cell (g := 1) (by kernel_rfl) c.toNat (by unfold spaceTab; simp; omega)
 rw [h3]
 unfold spaceTab
 rw [List.getD_eq_getElem?_getD, List.getElem?_map, List.getElem?_range (by omega)]
 simp
theorem envRange {W : World} {l : List (String × DataW Unit)} (h : laidMetH Tryz.prog l W) (e : l.filter (fun x => x.1 == "strconv.ErrRange") = [("strconv.ErrRange", Rows.laid_strconv_ErrRange)]) : RangeAt W := by
 have h1 := laidMetH.filter (fun x => x.1 == "strconv.ErrRange") h
 rw [e] at h1
 have h2 : laidMet Tryz.prog [("strconv.ErrRange", Rows.laid_strconv_ErrRange)] W := h1
 obtain ⟨ps, ⟨g', t', cs, fuel, p, q, hg', ht', hvar, hd, _, _⟩, _⟩ := h2
 obtain rfl := Option.some.inj ((show Tryz.prog.globalNamed "strconv.ErrRange" = some 5 by kernel_rfl).symm.trans hg')
 obtain rfl := Option.some.inj ((show (Tryz.prog.globals[5]?).map (·.type) = some 58 by kernel_rfl).symm.trans ht')
 obtain ⟨f1, u, v, hcs, _, _⟩ := iface_of_trod Tryz.underlying58 hd
 refine ⟨u, v, ?_⟩
 have h3 := World.var?_cell hg' hvar 0
 have h4 : cs[0]? = some (.iface u v) := by rw [← Array.getElem?_toList, hcs]; rfl
 rw [h3, h4]
theorem errRows : ((List.range Tryz.prog.types.size).filter fun t => Tryz.prog.rowNamed t [101, 114, 114, 111, 114]) = [58] := by kernel_rfl
theorem envErr {W : World} {l : List (String × DataW Unit)} (h : laidMetH Tryz.prog l W) (e : l.filter (fun x => x.1 == "errors.errorType") = [("errors.errorType", Rows.laid_errors_errorType)]) : ErrT W := by
 have h1 := laidMetH.filter (fun x => x.1 == "errors.errorType") h
 rw [e] at h1
 have h' : laidMet Tryz.prog [] W ∧ handlesMet Tryz.prog [("errors.errorType", Rows.laid_errors_errorType)] W := h1
 obtain ⟨name, u, ty, e1, e2, e3, e4, e5⟩ := h'.2 _ (List.mem_singleton.2 rfl)
 have en : name = [101, 114, 114, 111, 114] := (Option.some.inj e1).symm
 subst en
 obtain rfl := Option.some.inj ((show (Tryz.prog.cutTypes.find? (·.1 == "internal/reflectlite.rtype")).map (·.2) = some 137 by kernel_rfl).symm.trans e2)
 have hm : ty ∈ (List.range Tryz.prog.types.size).filter fun t => Tryz.prog.rowNamed t [101, 114, 114, 111, 114] := List.mem_filter.2 ⟨List.mem_range.2 e3, e4⟩
 rw [errRows] at hm
 obtain rfl := List.mem_singleton.1 hm
 have hh : typeHandle Tryz.prog 58 = .pointer (some (rtA 58)) := by kernel_rfl
 rw [hh] at e5
 show W.cell? ⟨0, 0, none⟩ = _
 simpa using World.var?_cell (show Tryz.prog.globalNamed "errors.errorType" = some 0 by kernel_rfl) e5 0
theorem env_of {W : World} {l : List (String × DataW Unit)} (hsh : W.ShapedOpen Tryz.prog) (h : laidMetH Tryz.prog l W) (e1 : l.filter (fun x => x.1 == "strings.asciiSpace") = [("strings.asciiSpace", Rows.laid_strings_asciiSpace)])
  (e2 : l.filter (fun x => x.1 == "strconv.ErrRange") = [("strconv.ErrRange", Rows.laid_strconv_ErrRange)]) (e3 : l.filter (fun x => x.1 == "errors.errorType") = [("errors.errorType", Rows.laid_errors_errorType)]) : LexEnv W :=
 ⟨envMax hsh, envSpace h e1, envRange h e2, envErr h e3⟩
end Go.Proofs.YtljmcmdabdlldaaGreatDoor.lex
namespace Go.Tre
open Go.RowKit Go.ChangeShapes Go.Deep
theorem addr_plain {w : World} {a : Addr} {j : Nat} {u : Value} (h : w.cell? (a.add j) = some u) : (∃ b off, a = ⟨b, off, none⟩) ∨ 0 < j := by
 by_cases hj : j = 0
 ·subst hj
  left
  obtain ⟨b, off, s⟩ := a
  simp [Addr.add, World.cell?] at h
  split at h
  ·by_cases hs : s = none
   ·subst hs; exact ⟨_, _, rfl⟩
   ·have : s.isSome = true := Option.isSome_iff_ne_none.2 hs
    simp [this] at h
  ·cases h
 ·exact .inr (by omega)
theorem add_plain (b off j : Nat) : (⟨b, off, none⟩ : Addr).add j = ⟨b, off + j, none⟩ := by
 unfold Addr.add
 by_cases h : j = 0 <;> simp [h]
section
variable {P : Program} {H : Type} {enc : TypeId × Value → H} {w : World} {base : Nat} {sp : Nat → Bool} {held : Bool}
end
end Go.Tre
namespace Go.Proofs.YtljmcmdabdlldaaGreatDoor.gr
open Go.RowKit Go.Maps Go.Tre lex Go.ChangeShapes Go.Deep
set_option maxRecDepth 100000
section
variable {H : Type} {enc : TypeId × Value → H} {w : World} {base : Nat} {sp : Nat → Bool} {held : Bool}
theorem bulk_map {H : Type} (D : Nat → DataW H) (W : Nat → Nat) : ∀ (l : List Nat), (∀ i ∈ l, W i ≤ Rows.uptoBulk (D i)) → (l.map W).sum ≤ Rows.uptoBulkAll (l.map D)
 | [], _ => by simp
 | i :: r, h => by
  have h1 := h i (by simp)
  have h2 := bulk_map D W r (fun j hj => h j (by simp [hj]))
  simp only [List.map_cons, List.sum_cons, Rows.uptoBulkAll]
  omega
theorem bulk_pos (d : DataW H) : 1 ≤ Rows.uptoBulk d := by unfold Rows.uptoBulk; split <;> omega
end
end Go.Proofs.YtljmcmdabdlldaaGreatDoor.gr
namespace Go.Proofs.YtljmcmdabdlldaaGreatDoor.part
open Go.RowKit Go.Maps Go.Tre Go.ChangeShapes Go.Deep gr
set_option maxRecDepth 100000
theorem cellsPart : Tryz.prog.cellsOf 46 = 4 := by kernel_rfl
section
variable {H : Type} {enc : TypeId × Value → H} {w : World} {base : Nat} {sp : Nat → Bool} {held : Bool}
theorem u8_bounds {k : Int} (h : Lit.wf (.int .u8 k) = true) : 0 ≤ k ∧ k < 256 := by
 simp [Lit.wf, IntKind.min, IntKind.max, IntKind.signed, IntKind.bits] at h
 omega
theorem open_part {fuel : Nat} {cs : List Value} {x : DataW H × List MemPlace} (h : DataW.trod enc Tryz.prog w base sp held fuel 46 cs = some x) :
  ∃ p : Prt, cs = [.int .u8 p.kind, .string ⟨p.s.toArray⟩, .int .u8 p.args, .bool p.opn] ∧ p.kind < 256 ∧ p.args < 256 ∧ p.s.length + 4 ≤ Rows.uptoBulk x.1 := by
 obtain ⟨xs, n, _, rfl, hl, hn, hf⟩ := DataW.trod_struct Tryz.underlying46 h
 rw [cellsPart] at hl
 match cs, hl, xs, hn with
 | [c0, c1, c2, c3], _, [y0, y1, y2, y3], _ =>
  have f0 := hf 0 _ rfl
  have f1 := hf 1 _ rfl
  have f2 := hf 2 _ rfl
  have f3 := hf 3 _ rfl
  simp only [zqc, zqb] at f0 f1 f2 f3
  obtain ⟨k, e0, z0, b0⟩ := DataW.trod_int Tryz.underlying5 f0
  obtain ⟨s, e1, z1, _⟩ := DataW.trod_string Tryz.underlying9 f1
  obtain ⟨m, e2, z2, b2⟩ := DataW.trod_int Tryz.underlying5 f2
  obtain ⟨b, e3, z3⟩ := DataW.trod_bool Tryz.underlying4 f3
  cases e0; cases e1; cases e2; cases e3
  have k0 := u8_bounds b0
  have k2 := u8_bounds b2
  obtain ⟨kn, rfl⟩ : ∃ kn : Nat, (kn : Int) = k := ⟨k.toNat, by omega⟩
  obtain ⟨mn, rfl⟩ : ∃ mn : Nat, (mn : Int) = m := ⟨m.toNat, by omega⟩
  refine ⟨⟨kn, s.data.toList, mn, b⟩, ?_, by show kn < 256; omega, by show mn < 256; omega, ?_⟩
  ·have : (⟨s.data.toList.toArray⟩ : ByteArray) = s := rfl
   simp only [this]
  ·have q0 : 1 ≤ Rows.uptoBulk y0.1 := bulk_pos _
   have q2 : 1 ≤ Rows.uptoBulk y2.1 := bulk_pos _
   have q3 : 1 ≤ Rows.uptoBulk y3.1 := bulk_pos _
   have q1 : s.data.toList.length + 1 ≤ Rows.uptoBulk y1.1 := by rw [z1]; simp only [Rows.uptoBulk]; exact Nat.le_refl _
   simp only [List.map_cons, List.map_nil, Rows.uptoBulk, Rows.uptoBulkAll]
   omega
theorem open_parts' {fuel : Nat} {cs : List Value} {x : DataW H × List MemPlace} (h : DataW.trod enc Tryz.prog w base sp held fuel 22 cs = some x) :
  ∃ (a : Option Addr) (cap : Nat) (l : List Prt), cs = [.slice a l.length cap] ∧ PrtsAt w a l ∧ l.length ≤ cap ∧ l.length + 1 ≤ Rows.uptoBulk x.1 := by
 rcases open_slice Tryz.underlying22 h with ⟨h1, h2⟩ | ⟨a, len, cap, m, fu, D, Pl, h1, _, h3, _, h5, rfl, h7⟩
 ·exact ⟨none, 0, [], h1, PrtsAt.nil _ _, Nat.le_refl _, by rw [h2]; simp [Rows.uptoBulk]⟩
 ·rw [cellsPart] at h7
  have hm : len ≤ m := by rw [h5]; split <;> omega
  have step : ∀ i, i < len → ∃ n : Prt, 1 ≤ Rows.uptoBulk (D i) ∧ ∃ b off, a = ⟨b, off, none⟩ ∧ PrtAt w b (off + i * 4) n := by
   intro i hi
   obtain ⟨cs', hc, ht⟩ := h7 i (by omega)
   obtain ⟨n, e, hk, ha, hw⟩ := open_part ht
   obtain ⟨_, _, hcell⟩ := World.cells?_some hc
   subst e
   have k0 : w.cell? ((a.add (i * 4)).add 0) = some (.int .u8 n.kind) := hcell 0 (by omega)
   have hp : ∃ b off, a = ⟨b, off, none⟩ := by
    by_cases hi0 : i = 0
    ·subst hi0
     rcases addr_plain k0 with h' | h'
     ·obtain ⟨b, off, e⟩ := h'
      exact ⟨b, off, by simpa [Addr.add] using e⟩
     ·omega
    ·obtain ⟨cs0, hc0, ht0⟩ := h7 0 (by omega)
     obtain ⟨n0, e0, _⟩ := open_part ht0
     obtain ⟨_, _, hcell0⟩ := World.cells?_some hc0
     subst e0
     have k00 : w.cell? ((a.add (0 * 4)).add 0) = some (.int .u8 n0.kind) := hcell0 0 (by omega)
     rcases addr_plain k00 with h' | h'
     ·obtain ⟨b, off, e⟩ := h'
      exact ⟨b, off, by simpa [Addr.add] using e⟩
     ·omega
   obtain ⟨b, off, rfl⟩ := hp
   have g : ∀ j, j < 4 → w.cell? ⟨b, off + i * 4 + j, none⟩ = ([.int .u8 n.kind, .string ⟨n.s.toArray⟩, .int .u8 n.args, .bool n.opn] : List Value)[j]? := fun j hj => by
    have := hcell j hj
    rwa [add_plain, add_plain] at this
   exact ⟨n, Nat.le_trans (by omega : 1 ≤ n.s.length + 4) hw, b, off, rfl, g 0 (by omega), g 1 (by omega), g 2 (by omega), g 3 (by omega), hk, ha⟩
  obtain ⟨f, hf⟩ : ∃ f : Nat → Prt, ∀ i, i < len → 1 ≤ Rows.uptoBulk (D i) ∧ ∃ b off, a = ⟨b, off, none⟩ ∧ PrtAt w b (off + i * 4) (f i) :=
   ⟨fun i => if h : i < len then Classical.choose (step i h) else ⟨0, [], 0, false⟩, fun i hi => by simp only [hi, dif_pos]; exact Classical.choose_spec (step i hi)⟩
  have hl : ((List.range len).map f).length = len := by simp
  refine ⟨some a, cap, (List.range len).map f, by rw [hl]; exact h1, ⟨fun k n hn => ?_⟩, by rw [hl]; exact h3, ?_⟩
  ·rw [List.getElem?_map] at hn
   obtain ⟨i, hi, rfl⟩ := Option.map_eq_some_iff.1 hn
   have hk : k < len := by have := (List.getElem?_eq_some_iff.1 hi).1; simpa using this
   rw [List.getElem?_range hk] at hi
   cases hi
   obtain ⟨_, b, off, e, hn⟩ := hf k hk
   exact ⟨b, off, by rw [e], hn⟩
  ·have h1 := bulk_map D (fun _ => 1) (List.range len) (fun i hi => (hf i (List.mem_range.1 hi)).1)
   have h2 : ((List.range len).map fun _ => 1).sum = len := by
    have := sum_const (α := Nat) 1 (List.range len)
    rw [List.length_range] at this
    omega
   rw [hl]
   simp only [Rows.uptoBulk]
   omega
theorem open_parts {r : Reach} {b0 : Nat} {v : Value} {d : DataW H} {ps : List MemPlace} (hval : Value.okWide Tryz.prog w r b0 22 v) (hd : DataW.Trod enc Tryz.prog w base sp held 22 v d ps) :
  ∃ (a : Option Addr) (cap : Nat) (l : List Prt), v = .slice a l.length cap ∧ (PrtsAt w a l ∧ l.length ≤ cap) ∧ l.length + 1 ≤ Rows.uptoBulk d := by
 obtain ⟨fuel, hf⟩ := hd
 obtain ⟨a, cap, l, e, h1, h2, h3⟩ := open_parts' hf
 refine ⟨a, cap, l, ?_, ⟨h1, h2⟩, h3⟩
 have hno : ∀ cs, v ≠ .agg cs := fun cs hcs => by
  subst hcs
  unfold Value.okWide at hval
  rw [Tryz.underlying22] at hval
  simp only [Cell.okWide, Tryz.underlying22] at hval
  simp [Cell.ok, Tryz.underlying22] at hval
 cases v with
 | agg cs => exact absurd rfl (hno cs)
 | _ => exact (List.cons.inj e).1
end
end Go.Proofs.YtljmcmdabdlldaaGreatDoor.part
