/- typ: the parser's level: a row of arrows. typ: the parser's level: a row of stars. Layer 3, plain: the parser goes on. slices.Insert at the end of a row: strings, types. -/
import Derived.Test.YtljmcmdabdlldaaGreatDoorB18
import Derived.Test.YtljmcmdabdlldaaGreatDoorB00
import Derived.Test.YtljmcmdabdlldaaGreatDoorB16
import Derived.Test.YtljmcmdabdlldaaGreatDoorB08
set_option linter.unusedVariables false
namespace Go.Proofs.YtljmcmdabdlldaaGreatDoor.typ
open Go.RowKit Go.Tre
set_option maxRecDepth 100000 in
set_option maxHeartbeats 8000000 in
theorem level1 (w0 : World) (b : Nat) (ad : Option Addr) (c : Nat) (l : List Tok) (hl : ToksAt w0 ad l) (he : TokEnds l) (hll : l.length ≤ 4194304) (k : Nat) (ih : LevAt w0 b ad c l k) (rs : List Res) (i j : Nat) (t : Ty) (w : World) (hi : i < l.length) (hp : pLev l (k + 1) 1 i = some (t, j)) (hM : Mem w0 w (parR b ad l.length c i :: rs)) :
  Calls Tryz.prog 79 #[.pointer (some ⟨b, 0, none⟩), .int .i64 1] w (LevPost w0 b ad c l rs t j) := by
 have hp' := hp
 rw [pLevB _ _ _ _ (by omega)] at hp'
 obtain ⟨⟨t1, i1⟩, h1, h2⟩ := Option.bind_eq_some_iff.1 hp'
 have HP : Hid ((if tk l i1 6 [45, 62] = true then (pLev l k 1 (i1 + 1)).map fun q => (Ty.mk 2 [45, 62] [t1, q.1] [] false, q.2) else some (t1, i1)) = some (t, j)) := h2
 have HP1 := Tre.hid h1
 have HL := Tre.hid hl
 have HE := Tre.hid he
 have IH := Tre.hid ih
 have M0 := Tre.hid (hM.allocR #[.int .i64 0, .string ⟨#[]⟩, .slice none 0 0, .slice none 0 0, .bool false] 28)
 clear hl he ih hp hp' h1 h2 hM
 go_enter Tryz.func79, Tryz.ntmps79
 go_wp2_with fail
 refine (IH.out _ 2 i i1 t1 _ hi (by omega) HP1.out ((M0.out.alloc _).front 1 rfl)).mono ?_
 rintro e w1 ⟨O, aa, ca, al, cl, rfl, hj1, M1⟩
 generalize w.heap.size = tb at *
 have g0 : w1.cell? ⟨tb, 0, none⟩ = some (.int .i64 0) := M1.cell 2 rfl 0 rfl
 have g1 : w1.cell? ⟨tb, 1, none⟩ = some (.string ⟨#[]⟩) := M1.cell 2 rfl 1 rfl
 have g2 : w1.cell? ⟨tb, 2, none⟩ = some (.slice none 0 0) := M1.cell 2 rfl 2 rfl
 have g3 : w1.cell? ⟨tb, 3, none⟩ = some (.slice none 0 0) := M1.cell 2 rfl 3 rfl
 have g4 : w1.cell? ⟨tb, 4, none⟩ = some (.bool false) := M1.cell 2 rfl 4 rfl
 have f0 := M1.free 2 rfl 0
 have f1 := M1.free 2 rfl 1
 have f2 := M1.free 2 rfl 2
 have f3 := M1.free 2 rfl 3
 have f4 := M1.free 2 rfl 4
 have M2 := (((((M1.setCell 2 rfl 0 (.int .i64 (t1.kind : Int))).setCell 2 rfl 1 (.string ⟨t1.s.toArray⟩)).setCell 2 rfl 2 (.slice aa t1.args.length ca)).setCell 2 rfl 3 (.slice al t1.labels.length cl)).setCell 2 rfl 4 (.bool t1.opn))
 have M2b : Mem w0 _ (cellsR tb 28 #[.int .i64 (t1.kind : Int), .string ⟨t1.s.toArray⟩, .slice aa t1.args.length ca, .slice al t1.labels.length cl, .bool t1.opn] :: tyR O t1 (.agg #[.int .i64 (t1.kind : Int), .string ⟨t1.s.toArray⟩, .slice aa t1.args.length ca, .slice al t1.labels.length cl, .bool t1.opn]) :: parR b ad l.length c i1 :: rs) := M2.front 2 rfl
 have HM2 := Tre.hid M2b
 clear M2b
 have HJ1 := Tre.hid hj1
 clear M1 M2 hj1 M0 HP1
 go_wp2_with fail
 by_cases hk : tk l i1 6 [45, 62] = true
 ·have hpm := HP.out
  rw [if_pos hk] at hpm
  obtain ⟨⟨t2, j2⟩, hq, hq2⟩ := Option.map_eq_some_iff.1 hpm
  cases hq2
  have HK := Tre.hid hk
  have HP2 := Tre.hid hq
  have HI2 := Tre.hid (tk_lt HE.out (by omega) hk)
  clear hk hpm hq HP g0 g1 g2 g3 g4 f0 f1 f2 f3 f4
  refine (takes w0 _ b ad c l i1 6 ⟨#[45, 62]⟩ _ (HM2.out.front 2 rfl) HL.out HJ1.out hll true HK.out).mono ?_
  rintro e w2 ⟨rfl, M3⟩
  rw [if_pos rfl] at M3
  have HM3 := Tre.hid M3
  have p0 : w2.cell? ⟨tb, 0, none⟩ = some (.int .i64 (t1.kind : Int)) := M3.cell 1 rfl 0 rfl
  have p1 : w2.cell? ⟨tb, 1, none⟩ = some (.string ⟨t1.s.toArray⟩) := M3.cell 1 rfl 1 rfl
  have p2 : w2.cell? ⟨tb, 2, none⟩ = some (.slice aa t1.args.length ca) := M3.cell 1 rfl 2 rfl
  have p3 : w2.cell? ⟨tb, 3, none⟩ = some (.slice al t1.labels.length cl) := M3.cell 1 rfl 3 rfl
  have p4 : w2.cell? ⟨tb, 4, none⟩ = some (.bool t1.opn) := M3.cell 1 rfl 4 rfl
  clear M3 HM2 HK
  go_wp2_with fail
  have cS : Cond (fun w' => w'.cell? ⟨tb, 0, none⟩ = some (.int .i64 (t1.kind : Int)) ∧ w'.cell? ⟨tb, 1, none⟩ = some (.string ⟨t1.s.toArray⟩) ∧ w'.cell? ⟨tb, 2, none⟩ = some (.slice aa t1.args.length ca) ∧ w'.cell? ⟨tb, 3, none⟩ = some (.slice al t1.labels.length cl) ∧ w'.cell? ⟨tb, 4, none⟩ = some (.bool t1.opn)) := ⟨⟩
  refine cS.keep [5, 7] ?_ (fun hH0 => ?_)
  ·exact ⟨p0, p1, p2, p3, p4⟩
  have H0 := Tre.hid HM3.out.drew
  generalize hq : w2.drew = wq0 at H0 hH0 ⊢
  clear hq p0 p1 p2 p3 p4 HM3
  refine lPq 0 (some 33) (v := ?_) rfl ?_ (keep_of hH0) ?_
  rotate_left
  ·intro w; go_simp <;> with_reducible rfl
  try simp only [Act.put, zqf, zqg, zqh]
  refine lPq 2 (some 35) (v := ?_) rfl ?_ (keep_of hH0) ?_
  rotate_left
  ·intro w; go_simp <;> with_reducible rfl
  try simp only [Act.put, zqf, zqg, zqh]
  refine lPq 3 (some 36) (v := ?_) rfl ?_ (keep_of hH0) ?_
  rotate_left
  ·intro w; go_simp <;> with_reducible rfl
  try simp only [Act.put, zqf, zqg, zqh]
  refine lTq 1 (some 34) (v := ?_) rfl ?_ hH0 ?_
  rotate_left
  ·intro w hSw; (try dsimp only at hSw); go_simp <;> with_reducible rfl
  try simp only [Act.put, zqf, zqg, zqh]
  refine lOne 4 (by kernel_rfl) (LStep.op (fun K hK => ?_))
  go_simp
  refine (IH.out _ 1 (i1 + 1) j2 t2 _ HI2.out (by omega) HP2.out (H0.out.front 0 rfl)).mono ?_
  rintro e wq1 ⟨O2, aa2, ca2, al2, cl2, rfl, hj2, m⟩
  have H1 := Tre.hid m
  have HJ2 := Tre.hid hj2
  have k0 : wq1.cell? ⟨tb, 0, none⟩ = some (.int .i64 (t1.kind : Int)) := m.cell 2 rfl 0 rfl
  have k1 : wq1.cell? ⟨tb, 1, none⟩ = some (.string ⟨t1.s.toArray⟩) := m.cell 2 rfl 1 rfl
  have k2 : wq1.cell? ⟨tb, 2, none⟩ = some (.slice aa t1.args.length ca) := m.cell 2 rfl 2 rfl
  have k3 : wq1.cell? ⟨tb, 3, none⟩ = some (.slice al t1.labels.length cl) := m.cell 2 rfl 3 rfl
  have k4 : wq1.cell? ⟨tb, 4, none⟩ = some (.bool t1.opn) := m.cell 2 rfl 4 rfl
  have K0 := Tre.hid k0
  have K1 := Tre.hid k1
  have K2 := Tre.hid k2
  have K3 := Tre.hid k3
  have K4 := Tre.hid k4
  clear m hj2 k0 k1 k2 k3 k4
  refine hK.out _ _ ?_ (fun hH1 => ?_)
  ·exact ⟨K0.out, K1.out, K2.out, K3.out, K4.out⟩
  clear hK K hH0
  try simp only [Act.put, zqf, zqg, zqh]
  refine lOne 5 (by kernel_rfl) (LFall.op (by kernel_rfl) (fun K hK => ?_))
  have MA := H1.out.allocRow #[.int .i64 (t1.kind : Int), .string ⟨t1.s.toArray⟩, .slice aa t1.args.length ca, .slice al t1.labels.length cl, .bool t1.opn, .int .i64 (t2.kind : Int), .string ⟨t2.s.toArray⟩, .slice aa2 t2.args.length ca2, .slice al2 t2.labels.length cl2, .bool t2.opn] 28 5 2 (by unfold maxLen; omega) rfl
  go_simp
  generalize hnb : wq1.heap.size = nb at MA ⊢
  generalize hw : wq1.alloc (.cells #[.int .i64 (t1.kind : Int), .string ⟨t1.s.toArray⟩, .slice aa t1.args.length ca, .slice al t1.labels.length cl, .bool t1.opn, .int .i64 (t2.kind : Int), .string ⟨t2.s.toArray⟩, .slice aa2 t2.args.length ca2, .slice al2 t2.labels.length cl2, .bool t2.opn] 28) = wq2 at MA ⊢
  have H2 := Tre.hid MA
  clear MA hw hnb
  refine hK.out _ _ ?_
  clear hK K hH1
  try simp only [Act.put, zqf, zqg, zqh]
  refine lPq 6 (some 39) (v := ?_) rfl ?_ (keep_fell (by kernel_rfl)) ?_
  rotate_left
  ·intro w; go_simp <;> with_reducible rfl
  try simp only [Act.put, zqf, zqg, zqh]
  refine lOne 7 (by kernel_rfl) (LFall.op (by kernel_rfl) (fun K hK => ?_))
  have g0 : wq2.cell? ⟨tb, 0, none⟩ = some (.int .i64 (t1.kind : Int)) := H2.out.cell 3 rfl 0 rfl
  have g1 : wq2.cell? ⟨tb, 1, none⟩ = some (.string ⟨t1.s.toArray⟩) := H2.out.cell 3 rfl 1 rfl
  have g2 : wq2.cell? ⟨tb, 2, none⟩ = some (.slice aa t1.args.length ca) := H2.out.cell 3 rfl 2 rfl
  have g3 : wq2.cell? ⟨tb, 3, none⟩ = some (.slice al t1.labels.length cl) := H2.out.cell 3 rfl 3 rfl
  have g4 : wq2.cell? ⟨tb, 4, none⟩ = some (.bool t1.opn) := H2.out.cell 3 rfl 4 rfl
  have f0 := H2.out.free 3 rfl 0
  have f1 := H2.out.free 3 rfl 1
  have f2 := H2.out.free 3 rfl 2
  have f3 := H2.out.free 3 rfl 3
  have f4 := H2.out.free 3 rfl 4
  have H9 := (((((H2.out.setCell 3 rfl 0 (.int .i64 2)).setCell 3 rfl 1 (.string ⟨#[45, 62]⟩)).setCell 3 rfl 2 (.slice (some ⟨nb, 0, none⟩) 2 2)).setCell 3 rfl 3 (.slice none 0 0)).setCell 3 rfl 4 (.bool false))
  go_simp
  generalize hw : (((((wq2.setCell ⟨tb, 0, none⟩ (.int .i64 2)).setCell ⟨tb, 1, none⟩ (.string ⟨#[45, 62]⟩)).setCell ⟨tb, 2, none⟩ (.slice (some ⟨nb, 0, none⟩) 2 2)).setCell ⟨tb, 3, none⟩ (.slice none 0 0)).setCell ⟨tb, 4, none⟩ (.bool false)) = wq3 at H9 ⊢
  have H3 := Tre.hid H9
  clear H9 hw g0 g1 g2 g3 g4 f0 f1 f2 f3 f4
  refine hK.out _ _ ?_
  clear hK K
  try simp only [Act.put, zqf, zqg, zqh]
  refine lDone (by kernel_rfl) ?_
  have MB := (((((H3.out.front 2 rfl).front 3 rfl).front 3 rfl).front 4 rfl).front 4 rfl)
  have MC := ((MB.addNil 9 1).front 1 rfl)
  have MD := Mem.tyMake (kids := [⟨t1, #[.int .i64 (t1.kind : Int), .string ⟨t1.s.toArray⟩, .slice aa t1.args.length ca, .slice al t1.labels.length cl, .bool t1.opn], O⟩, ⟨t2, #[.int .i64 (t2.kind : Int), .string ⟨t2.s.toArray⟩, .slice aa2 t2.args.length ca2, .slice al2 t2.labels.length cl2, .bool t2.opn], O2⟩]) (labels := []) 2 [45, 62] false MC rfl rfl (by simp [kidCells])
  have MD2 : Mem w0 wq3 (cellsR tb 28 #[.int .i64 2, .string ⟨#[45, 62]⟩, .slice (some ⟨nb, 0, none⟩) 2 2, .slice none 0 0, .bool false] :: _) := MD.front 1 rfl
  have HM3 := Tre.hid MD2
  clear MB MC MD MD2
  have MT : Mem w0 wq3 (cellsR tb 28 #[.int .i64 2, .string ⟨#[45, 62]⟩, .slice (some ⟨nb, 0, none⟩) 2 2, .slice none 0 0, .bool false] :: _) := HM3.out.front 0 rfl
  have g0 : wq3.cell? ⟨tb, 0, none⟩ = some (.int .i64 2) := MT.cell 0 rfl 0 rfl
  have g1 : wq3.cell? ⟨tb, 1, none⟩ = some (.string ⟨#[45, 62]⟩) := MT.cell 0 rfl 1 rfl
  have g2 : wq3.cell? ⟨tb, 2, none⟩ = some (.slice (some ⟨nb, 0, none⟩) 2 2) := MT.cell 0 rfl 2 rfl
  have g3 : wq3.cell? ⟨tb, 3, none⟩ = some (.slice none 0 0) := MT.cell 0 rfl 3 rfl
  have g4 : wq3.cell? ⟨tb, 4, none⟩ = some (.bool false) := MT.cell 0 rfl 4 rfl
  have f0 := MT.free 0 rfl 0
  have f1 := MT.free 0 rfl 1
  have f2 := MT.free 0 rfl 2
  have f3 := MT.free 0 rfl 3
  have f4 := MT.free 0 rfl 4
  have M6 : Mem w0 (((((wq3.setCell ⟨tb, 0, none⟩ (.int .i64 2)).setCell ⟨tb, 1, none⟩ (.string ⟨#[45, 62]⟩)).setCell ⟨tb, 2, none⟩ (.slice (some ⟨nb, 0, none⟩) 2 2)).setCell ⟨tb, 3, none⟩ (.slice none 0 0)).setCell ⟨tb, 4, none⟩ (.bool false)) (cellsR tb 28 #[.int .i64 2, .string ⟨#[45, 62]⟩, .slice (some ⟨nb, 0, none⟩) 2 2, .slice none 0 0, .bool false] :: _) := (((((MT.setCell 0 rfl 0 (.int .i64 2)).setCell 0 rfl 1 (.string ⟨#[45, 62]⟩)).setCell 0 rfl 2 (.slice (some ⟨nb, 0, none⟩) 2 2)).setCell 0 rfl 3 (.slice none 0 0)).setCell 0 rfl 4 (.bool false))
  have HM6 := Tre.hid M6
  clear M6 MT
  go_wp2_with fail
  have z0 : (((((wq3.setCell ⟨tb, 0, none⟩ (.int .i64 2)).setCell ⟨tb, 1, none⟩ (.string ⟨#[45, 62]⟩)).setCell ⟨tb, 2, none⟩ (.slice (some ⟨nb, 0, none⟩) 2 2)).setCell ⟨tb, 3, none⟩ (.slice none 0 0)).setCell ⟨tb, 4, none⟩ (.bool false)).cell? ⟨tb, 0, none⟩ = some (.int .i64 2) := HM6.out.cell 0 rfl 0 rfl
  have z1 : (((((wq3.setCell ⟨tb, 0, none⟩ (.int .i64 2)).setCell ⟨tb, 1, none⟩ (.string ⟨#[45, 62]⟩)).setCell ⟨tb, 2, none⟩ (.slice (some ⟨nb, 0, none⟩) 2 2)).setCell ⟨tb, 3, none⟩ (.slice none 0 0)).setCell ⟨tb, 4, none⟩ (.bool false)).cell? ⟨tb, 1, none⟩ = some (.string ⟨#[45, 62]⟩) := HM6.out.cell 0 rfl 1 rfl
  have z2 : (((((wq3.setCell ⟨tb, 0, none⟩ (.int .i64 2)).setCell ⟨tb, 1, none⟩ (.string ⟨#[45, 62]⟩)).setCell ⟨tb, 2, none⟩ (.slice (some ⟨nb, 0, none⟩) 2 2)).setCell ⟨tb, 3, none⟩ (.slice none 0 0)).setCell ⟨tb, 4, none⟩ (.bool false)).cell? ⟨tb, 2, none⟩ = some (.slice (some ⟨nb, 0, none⟩) 2 2) := HM6.out.cell 0 rfl 2 rfl
  have z3 : (((((wq3.setCell ⟨tb, 0, none⟩ (.int .i64 2)).setCell ⟨tb, 1, none⟩ (.string ⟨#[45, 62]⟩)).setCell ⟨tb, 2, none⟩ (.slice (some ⟨nb, 0, none⟩) 2 2)).setCell ⟨tb, 3, none⟩ (.slice none 0 0)).setCell ⟨tb, 4, none⟩ (.bool false)).cell? ⟨tb, 3, none⟩ = some (.slice none 0 0) := HM6.out.cell 0 rfl 3 rfl
  have z4 : (((((wq3.setCell ⟨tb, 0, none⟩ (.int .i64 2)).setCell ⟨tb, 1, none⟩ (.string ⟨#[45, 62]⟩)).setCell ⟨tb, 2, none⟩ (.slice (some ⟨nb, 0, none⟩) 2 2)).setCell ⟨tb, 3, none⟩ (.slice none 0 0)).setCell ⟨tb, 4, none⟩ (.bool false)).cell? ⟨tb, 4, none⟩ = some (.bool false) := HM6.out.cell 0 rfl 4 rfl
  refine bodyPost_ret (v := .agg #[.int .i64 2, .string ⟨#[45, 62]⟩, .slice (some ⟨nb, 0, none⟩) 2 2, .slice none 0 0, .bool false]) (by simp [results, Tryz.results79, go_sem, z0, z1, z2, z3, z4]) rfl ?_
  have HR := HM6.out.drop1
  exact ⟨_, _, _, _, _, rfl, HJ2.out, HR⟩
 ·have hpm := HP.out
  rw [if_neg hk] at hpm
  injection hpm with hpm
  injection hpm with e1 e2
  subst e1 e2
  have HK : Hid (tk l i1 6 [45, 62] = false) := by show _ = _; simpa using hk
  clear hk HP g0 g1 g2 g3 g4 f0 f1 f2 f3 f4
  refine (takes w0 _ b ad c l i1 6 ⟨#[45, 62]⟩ _ (HM2.out.front 2 rfl) HL.out HJ1.out hll false HK.out).mono ?_
  rintro e w2 ⟨rfl, M3⟩
  rw [if_neg (by simp)] at M3
  have HM3 := Tre.hid M3
  clear M3 HM2 HK
  have MT : Mem w0 w2 (cellsR tb 28 #[.int .i64 (t1.kind : Int), .string ⟨t1.s.toArray⟩, .slice aa t1.args.length ca, .slice al t1.labels.length cl, .bool t1.opn] :: _) := HM3.out.front 1 rfl
  have g0 : w2.cell? ⟨tb, 0, none⟩ = some (.int .i64 (t1.kind : Int)) := MT.cell 0 rfl 0 rfl
  have g1 : w2.cell? ⟨tb, 1, none⟩ = some (.string ⟨t1.s.toArray⟩) := MT.cell 0 rfl 1 rfl
  have g2 : w2.cell? ⟨tb, 2, none⟩ = some (.slice aa t1.args.length ca) := MT.cell 0 rfl 2 rfl
  have g3 : w2.cell? ⟨tb, 3, none⟩ = some (.slice al t1.labels.length cl) := MT.cell 0 rfl 3 rfl
  have g4 : w2.cell? ⟨tb, 4, none⟩ = some (.bool t1.opn) := MT.cell 0 rfl 4 rfl
  have f0 := MT.free 0 rfl 0
  have f1 := MT.free 0 rfl 1
  have f2 := MT.free 0 rfl 2
  have f3 := MT.free 0 rfl 3
  have f4 := MT.free 0 rfl 4
  have M6 : Mem w0 (((((w2.setCell ⟨tb, 0, none⟩ (.int .i64 (t1.kind : Int))).setCell ⟨tb, 1, none⟩ (.string ⟨t1.s.toArray⟩)).setCell ⟨tb, 2, none⟩ (.slice aa t1.args.length ca)).setCell ⟨tb, 3, none⟩ (.slice al t1.labels.length cl)).setCell ⟨tb, 4, none⟩ (.bool t1.opn)) (cellsR tb 28 #[.int .i64 (t1.kind : Int), .string ⟨t1.s.toArray⟩, .slice aa t1.args.length ca, .slice al t1.labels.length cl, .bool t1.opn] :: _) := (((((MT.setCell 0 rfl 0 (.int .i64 (t1.kind : Int))).setCell 0 rfl 1 (.string ⟨t1.s.toArray⟩)).setCell 0 rfl 2 (.slice aa t1.args.length ca)).setCell 0 rfl 3 (.slice al t1.labels.length cl)).setCell 0 rfl 4 (.bool t1.opn))
  have HM6 := Tre.hid M6
  clear M6 MT
  go_wp2_with fail
  have z0 : (((((w2.setCell ⟨tb, 0, none⟩ (.int .i64 (t1.kind : Int))).setCell ⟨tb, 1, none⟩ (.string ⟨t1.s.toArray⟩)).setCell ⟨tb, 2, none⟩ (.slice aa t1.args.length ca)).setCell ⟨tb, 3, none⟩ (.slice al t1.labels.length cl)).setCell ⟨tb, 4, none⟩ (.bool t1.opn)).cell? ⟨tb, 0, none⟩ = some (.int .i64 (t1.kind : Int)) := HM6.out.cell 0 rfl 0 rfl
  have z1 : (((((w2.setCell ⟨tb, 0, none⟩ (.int .i64 (t1.kind : Int))).setCell ⟨tb, 1, none⟩ (.string ⟨t1.s.toArray⟩)).setCell ⟨tb, 2, none⟩ (.slice aa t1.args.length ca)).setCell ⟨tb, 3, none⟩ (.slice al t1.labels.length cl)).setCell ⟨tb, 4, none⟩ (.bool t1.opn)).cell? ⟨tb, 1, none⟩ = some (.string ⟨t1.s.toArray⟩) := HM6.out.cell 0 rfl 1 rfl
  have z2 : (((((w2.setCell ⟨tb, 0, none⟩ (.int .i64 (t1.kind : Int))).setCell ⟨tb, 1, none⟩ (.string ⟨t1.s.toArray⟩)).setCell ⟨tb, 2, none⟩ (.slice aa t1.args.length ca)).setCell ⟨tb, 3, none⟩ (.slice al t1.labels.length cl)).setCell ⟨tb, 4, none⟩ (.bool t1.opn)).cell? ⟨tb, 2, none⟩ = some (.slice aa t1.args.length ca) := HM6.out.cell 0 rfl 2 rfl
  have z3 : (((((w2.setCell ⟨tb, 0, none⟩ (.int .i64 (t1.kind : Int))).setCell ⟨tb, 1, none⟩ (.string ⟨t1.s.toArray⟩)).setCell ⟨tb, 2, none⟩ (.slice aa t1.args.length ca)).setCell ⟨tb, 3, none⟩ (.slice al t1.labels.length cl)).setCell ⟨tb, 4, none⟩ (.bool t1.opn)).cell? ⟨tb, 3, none⟩ = some (.slice al t1.labels.length cl) := HM6.out.cell 0 rfl 3 rfl
  have z4 : (((((w2.setCell ⟨tb, 0, none⟩ (.int .i64 (t1.kind : Int))).setCell ⟨tb, 1, none⟩ (.string ⟨t1.s.toArray⟩)).setCell ⟨tb, 2, none⟩ (.slice aa t1.args.length ca)).setCell ⟨tb, 3, none⟩ (.slice al t1.labels.length cl)).setCell ⟨tb, 4, none⟩ (.bool t1.opn)).cell? ⟨tb, 4, none⟩ = some (.bool t1.opn) := HM6.out.cell 0 rfl 4 rfl
  refine bodyPost_ret (v := .agg #[.int .i64 (t1.kind : Int), .string ⟨t1.s.toArray⟩, .slice aa t1.args.length ca, .slice al t1.labels.length cl, .bool t1.opn]) (by simp [results, Tryz.results79, go_sem, z0, z1, z2, z3, z4]) rfl ?_
  have HR := HM6.out.drop1
  exact ⟨O, aa, ca, al, cl, rfl, HJ1.out, HR.front 1 rfl⟩
end Go.Proofs.YtljmcmdabdlldaaGreatDoor.typ
namespace Go.Proofs.YtljmcmdabdlldaaGreatDoor.typ
open Go.RowKit Go.Tre
set_option maxRecDepth 100000 in
set_option maxHeartbeats 8000000 in
theorem level2 (w0 : World) (b : Nat) (ad : Option Addr) (c : Nat) (l : List Tok) (hl : ToksAt w0 ad l) (he : TokEnds l) (hll : l.length ≤ 4194304) (k : Nat) (ih : LevAt w0 b ad c l k) (rs : List Res) (i j : Nat) (t : Ty) (w : World) (hi : i < l.length) (hp : pLev l (k + 1) 2 i = some (t, j)) (hM : Mem w0 w (parR b ad l.length c i :: rs)) :
  Calls Tryz.prog 79 #[.pointer (some ⟨b, 0, none⟩), .int .i64 2] w (LevPost w0 b ad c l rs t j) := by
 have hp' := hp
 rw [pLevB _ _ _ _ (by omega)] at hp'
 obtain ⟨⟨t1, i1⟩, h1, h2⟩ := Option.bind_eq_some_iff.1 hp'
 have HP : Hid ((if tk l i1 6 [42] = true then (pLev l k 2 (i1 + 1)).map fun q => (Ty.mk 2 [42] [t1, q.1] [] false, q.2) else some (t1, i1)) = some (t, j)) := h2
 have HP1 := Tre.hid h1
 have HL := Tre.hid hl
 have HE := Tre.hid he
 have IH := Tre.hid ih
 have M0 := Tre.hid (hM.allocR #[.int .i64 0, .string ⟨#[]⟩, .slice none 0 0, .slice none 0 0, .bool false] 28)
 clear hl he ih hp hp' h1 h2 hM
 go_enter Tryz.func79, Tryz.ntmps79
 go_wp2_with fail
 refine (IH.out _ 3 i i1 t1 _ hi (by omega) HP1.out ((M0.out.alloc _).front 1 rfl)).mono ?_
 rintro e w1 ⟨O, aa, ca, al, cl, rfl, hj1, M1⟩
 generalize w.heap.size = tb at *
 have g0 : w1.cell? ⟨tb, 0, none⟩ = some (.int .i64 0) := M1.cell 2 rfl 0 rfl
 have g1 : w1.cell? ⟨tb, 1, none⟩ = some (.string ⟨#[]⟩) := M1.cell 2 rfl 1 rfl
 have g2 : w1.cell? ⟨tb, 2, none⟩ = some (.slice none 0 0) := M1.cell 2 rfl 2 rfl
 have g3 : w1.cell? ⟨tb, 3, none⟩ = some (.slice none 0 0) := M1.cell 2 rfl 3 rfl
 have g4 : w1.cell? ⟨tb, 4, none⟩ = some (.bool false) := M1.cell 2 rfl 4 rfl
 have f0 := M1.free 2 rfl 0
 have f1 := M1.free 2 rfl 1
 have f2 := M1.free 2 rfl 2
 have f3 := M1.free 2 rfl 3
 have f4 := M1.free 2 rfl 4
 have M2 := (((((M1.setCell 2 rfl 0 (.int .i64 (t1.kind : Int))).setCell 2 rfl 1 (.string ⟨t1.s.toArray⟩)).setCell 2 rfl 2 (.slice aa t1.args.length ca)).setCell 2 rfl 3 (.slice al t1.labels.length cl)).setCell 2 rfl 4 (.bool t1.opn))
 have M2b : Mem w0 _ (cellsR tb 28 #[.int .i64 (t1.kind : Int), .string ⟨t1.s.toArray⟩, .slice aa t1.args.length ca, .slice al t1.labels.length cl, .bool t1.opn] :: tyR O t1 (.agg #[.int .i64 (t1.kind : Int), .string ⟨t1.s.toArray⟩, .slice aa t1.args.length ca, .slice al t1.labels.length cl, .bool t1.opn]) :: parR b ad l.length c i1 :: rs) := M2.front 2 rfl
 have HM2 := Tre.hid M2b
 clear M2b
 have HJ1 := Tre.hid hj1
 clear M1 M2 hj1 M0 HP1
 go_wp2_with fail
 by_cases hk : tk l i1 6 [42] = true
 ·have hpm := HP.out
  rw [if_pos hk] at hpm
  obtain ⟨⟨t2, j2⟩, hq, hq2⟩ := Option.map_eq_some_iff.1 hpm
  cases hq2
  have HK := Tre.hid hk
  have HP2 := Tre.hid hq
  have HI2 := Tre.hid (tk_lt HE.out (by omega) hk)
  clear hk hpm hq HP g0 g1 g2 g3 g4 f0 f1 f2 f3 f4
  refine (takes w0 _ b ad c l i1 6 ⟨#[42]⟩ _ (HM2.out.front 2 rfl) HL.out HJ1.out hll true HK.out).mono ?_
  rintro e w2 ⟨rfl, M3⟩
  rw [if_pos rfl] at M3
  have HM3 := Tre.hid M3
  have p0 : w2.cell? ⟨tb, 0, none⟩ = some (.int .i64 (t1.kind : Int)) := M3.cell 1 rfl 0 rfl
  have p1 : w2.cell? ⟨tb, 1, none⟩ = some (.string ⟨t1.s.toArray⟩) := M3.cell 1 rfl 1 rfl
  have p2 : w2.cell? ⟨tb, 2, none⟩ = some (.slice aa t1.args.length ca) := M3.cell 1 rfl 2 rfl
  have p3 : w2.cell? ⟨tb, 3, none⟩ = some (.slice al t1.labels.length cl) := M3.cell 1 rfl 3 rfl
  have p4 : w2.cell? ⟨tb, 4, none⟩ = some (.bool t1.opn) := M3.cell 1 rfl 4 rfl
  clear M3 HM2 HK
  go_wp2_with fail
  have cS : Cond (fun w' => w'.cell? ⟨tb, 0, none⟩ = some (.int .i64 (t1.kind : Int)) ∧ w'.cell? ⟨tb, 1, none⟩ = some (.string ⟨t1.s.toArray⟩) ∧ w'.cell? ⟨tb, 2, none⟩ = some (.slice aa t1.args.length ca) ∧ w'.cell? ⟨tb, 3, none⟩ = some (.slice al t1.labels.length cl) ∧ w'.cell? ⟨tb, 4, none⟩ = some (.bool t1.opn)) := ⟨⟩
  refine cS.keep [5, 7] ?_ (fun hH0 => ?_)
  ·exact ⟨p0, p1, p2, p3, p4⟩
  have H0 := Tre.hid HM3.out.drew
  generalize hq : w2.drew = wq0 at H0 hH0 ⊢
  clear hq p0 p1 p2 p3 p4 HM3
  refine lPq 0 (some 33) (v := ?_) rfl ?_ (keep_of hH0) ?_
  rotate_left
  ·intro w; go_simp <;> with_reducible rfl
  try simp only [Act.put, zqf, zqg, zqh]
  refine lPq 2 (some 35) (v := ?_) rfl ?_ (keep_of hH0) ?_
  rotate_left
  ·intro w; go_simp <;> with_reducible rfl
  try simp only [Act.put, zqf, zqg, zqh]
  refine lPq 3 (some 36) (v := ?_) rfl ?_ (keep_of hH0) ?_
  rotate_left
  ·intro w; go_simp <;> with_reducible rfl
  try simp only [Act.put, zqf, zqg, zqh]
  refine lTq 1 (some 34) (v := ?_) rfl ?_ hH0 ?_
  rotate_left
  ·intro w hSw; (try dsimp only at hSw); go_simp <;> with_reducible rfl
  try simp only [Act.put, zqf, zqg, zqh]
  refine lOne 4 (by kernel_rfl) (LStep.op (fun K hK => ?_))
  go_simp
  refine (IH.out _ 2 (i1 + 1) j2 t2 _ HI2.out (by omega) HP2.out (H0.out.front 0 rfl)).mono ?_
  rintro e wq1 ⟨O2, aa2, ca2, al2, cl2, rfl, hj2, m⟩
  have H1 := Tre.hid m
  have HJ2 := Tre.hid hj2
  have k0 : wq1.cell? ⟨tb, 0, none⟩ = some (.int .i64 (t1.kind : Int)) := m.cell 2 rfl 0 rfl
  have k1 : wq1.cell? ⟨tb, 1, none⟩ = some (.string ⟨t1.s.toArray⟩) := m.cell 2 rfl 1 rfl
  have k2 : wq1.cell? ⟨tb, 2, none⟩ = some (.slice aa t1.args.length ca) := m.cell 2 rfl 2 rfl
  have k3 : wq1.cell? ⟨tb, 3, none⟩ = some (.slice al t1.labels.length cl) := m.cell 2 rfl 3 rfl
  have k4 : wq1.cell? ⟨tb, 4, none⟩ = some (.bool t1.opn) := m.cell 2 rfl 4 rfl
  have K0 := Tre.hid k0
  have K1 := Tre.hid k1
  have K2 := Tre.hid k2
  have K3 := Tre.hid k3
  have K4 := Tre.hid k4
  clear m hj2 k0 k1 k2 k3 k4
  refine hK.out _ _ ?_ (fun hH1 => ?_)
  ·exact ⟨K0.out, K1.out, K2.out, K3.out, K4.out⟩
  clear hK K hH0
  try simp only [Act.put, zqf, zqg, zqh]
  refine lOne 5 (by kernel_rfl) (LFall.op (by kernel_rfl) (fun K hK => ?_))
  have MA := H1.out.allocRow #[.int .i64 (t1.kind : Int), .string ⟨t1.s.toArray⟩, .slice aa t1.args.length ca, .slice al t1.labels.length cl, .bool t1.opn, .int .i64 (t2.kind : Int), .string ⟨t2.s.toArray⟩, .slice aa2 t2.args.length ca2, .slice al2 t2.labels.length cl2, .bool t2.opn] 28 5 2 (by unfold maxLen; omega) rfl
  go_simp
  generalize hnb : wq1.heap.size = nb at MA ⊢
  generalize hw : wq1.alloc (.cells #[.int .i64 (t1.kind : Int), .string ⟨t1.s.toArray⟩, .slice aa t1.args.length ca, .slice al t1.labels.length cl, .bool t1.opn, .int .i64 (t2.kind : Int), .string ⟨t2.s.toArray⟩, .slice aa2 t2.args.length ca2, .slice al2 t2.labels.length cl2, .bool t2.opn] 28) = wq2 at MA ⊢
  have H2 := Tre.hid MA
  clear MA hw hnb
  refine hK.out _ _ ?_
  clear hK K hH1
  try simp only [Act.put, zqf, zqg, zqh]
  refine lPq 6 (some 39) (v := ?_) rfl ?_ (keep_fell (by kernel_rfl)) ?_
  rotate_left
  ·intro w; go_simp <;> with_reducible rfl
  try simp only [Act.put, zqf, zqg, zqh]
  refine lOne 7 (by kernel_rfl) (LFall.op (by kernel_rfl) (fun K hK => ?_))
  have g0 : wq2.cell? ⟨tb, 0, none⟩ = some (.int .i64 (t1.kind : Int)) := H2.out.cell 3 rfl 0 rfl
  have g1 : wq2.cell? ⟨tb, 1, none⟩ = some (.string ⟨t1.s.toArray⟩) := H2.out.cell 3 rfl 1 rfl
  have g2 : wq2.cell? ⟨tb, 2, none⟩ = some (.slice aa t1.args.length ca) := H2.out.cell 3 rfl 2 rfl
  have g3 : wq2.cell? ⟨tb, 3, none⟩ = some (.slice al t1.labels.length cl) := H2.out.cell 3 rfl 3 rfl
  have g4 : wq2.cell? ⟨tb, 4, none⟩ = some (.bool t1.opn) := H2.out.cell 3 rfl 4 rfl
  have f0 := H2.out.free 3 rfl 0
  have f1 := H2.out.free 3 rfl 1
  have f2 := H2.out.free 3 rfl 2
  have f3 := H2.out.free 3 rfl 3
  have f4 := H2.out.free 3 rfl 4
  have H9 := (((((H2.out.setCell 3 rfl 0 (.int .i64 2)).setCell 3 rfl 1 (.string ⟨#[42]⟩)).setCell 3 rfl 2 (.slice (some ⟨nb, 0, none⟩) 2 2)).setCell 3 rfl 3 (.slice none 0 0)).setCell 3 rfl 4 (.bool false))
  go_simp
  generalize hw : (((((wq2.setCell ⟨tb, 0, none⟩ (.int .i64 2)).setCell ⟨tb, 1, none⟩ (.string ⟨#[42]⟩)).setCell ⟨tb, 2, none⟩ (.slice (some ⟨nb, 0, none⟩) 2 2)).setCell ⟨tb, 3, none⟩ (.slice none 0 0)).setCell ⟨tb, 4, none⟩ (.bool false)) = wq3 at H9 ⊢
  have H3 := Tre.hid H9
  clear H9 hw g0 g1 g2 g3 g4 f0 f1 f2 f3 f4
  refine hK.out _ _ ?_
  clear hK K
  try simp only [Act.put, zqf, zqg, zqh]
  refine lDone (by kernel_rfl) ?_
  have MB := (((((H3.out.front 2 rfl).front 3 rfl).front 3 rfl).front 4 rfl).front 4 rfl)
  have MC := ((MB.addNil 9 1).front 1 rfl)
  have MD := Mem.tyMake (kids := [⟨t1, #[.int .i64 (t1.kind : Int), .string ⟨t1.s.toArray⟩, .slice aa t1.args.length ca, .slice al t1.labels.length cl, .bool t1.opn], O⟩, ⟨t2, #[.int .i64 (t2.kind : Int), .string ⟨t2.s.toArray⟩, .slice aa2 t2.args.length ca2, .slice al2 t2.labels.length cl2, .bool t2.opn], O2⟩]) (labels := []) 2 [42] false MC rfl rfl (by simp [kidCells])
  have MD2 : Mem w0 wq3 (cellsR tb 28 #[.int .i64 2, .string ⟨#[42]⟩, .slice (some ⟨nb, 0, none⟩) 2 2, .slice none 0 0, .bool false] :: _) := MD.front 1 rfl
  have HM3 := Tre.hid MD2
  clear MB MC MD MD2
  have MT : Mem w0 wq3 (cellsR tb 28 #[.int .i64 2, .string ⟨#[42]⟩, .slice (some ⟨nb, 0, none⟩) 2 2, .slice none 0 0, .bool false] :: _) := HM3.out.front 0 rfl
  have g0 : wq3.cell? ⟨tb, 0, none⟩ = some (.int .i64 2) := MT.cell 0 rfl 0 rfl
  have g1 : wq3.cell? ⟨tb, 1, none⟩ = some (.string ⟨#[42]⟩) := MT.cell 0 rfl 1 rfl
  have g2 : wq3.cell? ⟨tb, 2, none⟩ = some (.slice (some ⟨nb, 0, none⟩) 2 2) := MT.cell 0 rfl 2 rfl
  have g3 : wq3.cell? ⟨tb, 3, none⟩ = some (.slice none 0 0) := MT.cell 0 rfl 3 rfl
  have g4 : wq3.cell? ⟨tb, 4, none⟩ = some (.bool false) := MT.cell 0 rfl 4 rfl
  have f0 := MT.free 0 rfl 0
  have f1 := MT.free 0 rfl 1
  have f2 := MT.free 0 rfl 2
  have f3 := MT.free 0 rfl 3
  have f4 := MT.free 0 rfl 4
  have M6 : Mem w0 (((((wq3.setCell ⟨tb, 0, none⟩ (.int .i64 2)).setCell ⟨tb, 1, none⟩ (.string ⟨#[42]⟩)).setCell ⟨tb, 2, none⟩ (.slice (some ⟨nb, 0, none⟩) 2 2)).setCell ⟨tb, 3, none⟩ (.slice none 0 0)).setCell ⟨tb, 4, none⟩ (.bool false)) (cellsR tb 28 #[.int .i64 2, .string ⟨#[42]⟩, .slice (some ⟨nb, 0, none⟩) 2 2, .slice none 0 0, .bool false] :: _) := (((((MT.setCell 0 rfl 0 (.int .i64 2)).setCell 0 rfl 1 (.string ⟨#[42]⟩)).setCell 0 rfl 2 (.slice (some ⟨nb, 0, none⟩) 2 2)).setCell 0 rfl 3 (.slice none 0 0)).setCell 0 rfl 4 (.bool false))
  have HM6 := Tre.hid M6
  clear M6 MT
  go_wp2_with fail
  have z0 : (((((wq3.setCell ⟨tb, 0, none⟩ (.int .i64 2)).setCell ⟨tb, 1, none⟩ (.string ⟨#[42]⟩)).setCell ⟨tb, 2, none⟩ (.slice (some ⟨nb, 0, none⟩) 2 2)).setCell ⟨tb, 3, none⟩ (.slice none 0 0)).setCell ⟨tb, 4, none⟩ (.bool false)).cell? ⟨tb, 0, none⟩ = some (.int .i64 2) := HM6.out.cell 0 rfl 0 rfl
  have z1 : (((((wq3.setCell ⟨tb, 0, none⟩ (.int .i64 2)).setCell ⟨tb, 1, none⟩ (.string ⟨#[42]⟩)).setCell ⟨tb, 2, none⟩ (.slice (some ⟨nb, 0, none⟩) 2 2)).setCell ⟨tb, 3, none⟩ (.slice none 0 0)).setCell ⟨tb, 4, none⟩ (.bool false)).cell? ⟨tb, 1, none⟩ = some (.string ⟨#[42]⟩) := HM6.out.cell 0 rfl 1 rfl
  have z2 : (((((wq3.setCell ⟨tb, 0, none⟩ (.int .i64 2)).setCell ⟨tb, 1, none⟩ (.string ⟨#[42]⟩)).setCell ⟨tb, 2, none⟩ (.slice (some ⟨nb, 0, none⟩) 2 2)).setCell ⟨tb, 3, none⟩ (.slice none 0 0)).setCell ⟨tb, 4, none⟩ (.bool false)).cell? ⟨tb, 2, none⟩ = some (.slice (some ⟨nb, 0, none⟩) 2 2) := HM6.out.cell 0 rfl 2 rfl
  have z3 : (((((wq3.setCell ⟨tb, 0, none⟩ (.int .i64 2)).setCell ⟨tb, 1, none⟩ (.string ⟨#[42]⟩)).setCell ⟨tb, 2, none⟩ (.slice (some ⟨nb, 0, none⟩) 2 2)).setCell ⟨tb, 3, none⟩ (.slice none 0 0)).setCell ⟨tb, 4, none⟩ (.bool false)).cell? ⟨tb, 3, none⟩ = some (.slice none 0 0) := HM6.out.cell 0 rfl 3 rfl
  have z4 : (((((wq3.setCell ⟨tb, 0, none⟩ (.int .i64 2)).setCell ⟨tb, 1, none⟩ (.string ⟨#[42]⟩)).setCell ⟨tb, 2, none⟩ (.slice (some ⟨nb, 0, none⟩) 2 2)).setCell ⟨tb, 3, none⟩ (.slice none 0 0)).setCell ⟨tb, 4, none⟩ (.bool false)).cell? ⟨tb, 4, none⟩ = some (.bool false) := HM6.out.cell 0 rfl 4 rfl
  refine bodyPost_ret (v := .agg #[.int .i64 2, .string ⟨#[42]⟩, .slice (some ⟨nb, 0, none⟩) 2 2, .slice none 0 0, .bool false]) (by simp [results, Tryz.results79, go_sem, z0, z1, z2, z3, z4]) rfl ?_
  have HR := HM6.out.drop1
  exact ⟨_, _, _, _, _, rfl, HJ2.out, HR⟩
 ·have hpm := HP.out
  rw [if_neg hk] at hpm
  injection hpm with hpm
  injection hpm with e1 e2
  subst e1 e2
  have HK : Hid (tk l i1 6 [42] = false) := by show _ = _; simpa using hk
  clear hk HP g0 g1 g2 g3 g4 f0 f1 f2 f3 f4
  refine (takes w0 _ b ad c l i1 6 ⟨#[42]⟩ _ (HM2.out.front 2 rfl) HL.out HJ1.out hll false HK.out).mono ?_
  rintro e w2 ⟨rfl, M3⟩
  rw [if_neg (by simp)] at M3
  have HM3 := Tre.hid M3
  clear M3 HM2 HK
  have MT : Mem w0 w2 (cellsR tb 28 #[.int .i64 (t1.kind : Int), .string ⟨t1.s.toArray⟩, .slice aa t1.args.length ca, .slice al t1.labels.length cl, .bool t1.opn] :: _) := HM3.out.front 1 rfl
  have g0 : w2.cell? ⟨tb, 0, none⟩ = some (.int .i64 (t1.kind : Int)) := MT.cell 0 rfl 0 rfl
  have g1 : w2.cell? ⟨tb, 1, none⟩ = some (.string ⟨t1.s.toArray⟩) := MT.cell 0 rfl 1 rfl
  have g2 : w2.cell? ⟨tb, 2, none⟩ = some (.slice aa t1.args.length ca) := MT.cell 0 rfl 2 rfl
  have g3 : w2.cell? ⟨tb, 3, none⟩ = some (.slice al t1.labels.length cl) := MT.cell 0 rfl 3 rfl
  have g4 : w2.cell? ⟨tb, 4, none⟩ = some (.bool t1.opn) := MT.cell 0 rfl 4 rfl
  have f0 := MT.free 0 rfl 0
  have f1 := MT.free 0 rfl 1
  have f2 := MT.free 0 rfl 2
  have f3 := MT.free 0 rfl 3
  have f4 := MT.free 0 rfl 4
  have M6 : Mem w0 (((((w2.setCell ⟨tb, 0, none⟩ (.int .i64 (t1.kind : Int))).setCell ⟨tb, 1, none⟩ (.string ⟨t1.s.toArray⟩)).setCell ⟨tb, 2, none⟩ (.slice aa t1.args.length ca)).setCell ⟨tb, 3, none⟩ (.slice al t1.labels.length cl)).setCell ⟨tb, 4, none⟩ (.bool t1.opn)) (cellsR tb 28 #[.int .i64 (t1.kind : Int), .string ⟨t1.s.toArray⟩, .slice aa t1.args.length ca, .slice al t1.labels.length cl, .bool t1.opn] :: _) := (((((MT.setCell 0 rfl 0 (.int .i64 (t1.kind : Int))).setCell 0 rfl 1 (.string ⟨t1.s.toArray⟩)).setCell 0 rfl 2 (.slice aa t1.args.length ca)).setCell 0 rfl 3 (.slice al t1.labels.length cl)).setCell 0 rfl 4 (.bool t1.opn))
  have HM6 := Tre.hid M6
  clear M6 MT
  go_wp2_with fail
  have z0 : (((((w2.setCell ⟨tb, 0, none⟩ (.int .i64 (t1.kind : Int))).setCell ⟨tb, 1, none⟩ (.string ⟨t1.s.toArray⟩)).setCell ⟨tb, 2, none⟩ (.slice aa t1.args.length ca)).setCell ⟨tb, 3, none⟩ (.slice al t1.labels.length cl)).setCell ⟨tb, 4, none⟩ (.bool t1.opn)).cell? ⟨tb, 0, none⟩ = some (.int .i64 (t1.kind : Int)) := HM6.out.cell 0 rfl 0 rfl
  have z1 : (((((w2.setCell ⟨tb, 0, none⟩ (.int .i64 (t1.kind : Int))).setCell ⟨tb, 1, none⟩ (.string ⟨t1.s.toArray⟩)).setCell ⟨tb, 2, none⟩ (.slice aa t1.args.length ca)).setCell ⟨tb, 3, none⟩ (.slice al t1.labels.length cl)).setCell ⟨tb, 4, none⟩ (.bool t1.opn)).cell? ⟨tb, 1, none⟩ = some (.string ⟨t1.s.toArray⟩) := HM6.out.cell 0 rfl 1 rfl
  have z2 : (((((w2.setCell ⟨tb, 0, none⟩ (.int .i64 (t1.kind : Int))).setCell ⟨tb, 1, none⟩ (.string ⟨t1.s.toArray⟩)).setCell ⟨tb, 2, none⟩ (.slice aa t1.args.length ca)).setCell ⟨tb, 3, none⟩ (.slice al t1.labels.length cl)).setCell ⟨tb, 4, none⟩ (.bool t1.opn)).cell? ⟨tb, 2, none⟩ = some (.slice aa t1.args.length ca) := HM6.out.cell 0 rfl 2 rfl
  have z3 : (((((w2.setCell ⟨tb, 0, none⟩ (.int .i64 (t1.kind : Int))).setCell ⟨tb, 1, none⟩ (.string ⟨t1.s.toArray⟩)).setCell ⟨tb, 2, none⟩ (.slice aa t1.args.length ca)).setCell ⟨tb, 3, none⟩ (.slice al t1.labels.length cl)).setCell ⟨tb, 4, none⟩ (.bool t1.opn)).cell? ⟨tb, 3, none⟩ = some (.slice al t1.labels.length cl) := HM6.out.cell 0 rfl 3 rfl
  have z4 : (((((w2.setCell ⟨tb, 0, none⟩ (.int .i64 (t1.kind : Int))).setCell ⟨tb, 1, none⟩ (.string ⟨t1.s.toArray⟩)).setCell ⟨tb, 2, none⟩ (.slice aa t1.args.length ca)).setCell ⟨tb, 3, none⟩ (.slice al t1.labels.length cl)).setCell ⟨tb, 4, none⟩ (.bool t1.opn)).cell? ⟨tb, 4, none⟩ = some (.bool t1.opn) := HM6.out.cell 0 rfl 4 rfl
  refine bodyPost_ret (v := .agg #[.int .i64 (t1.kind : Int), .string ⟨t1.s.toArray⟩, .slice aa t1.args.length ca, .slice al t1.labels.length cl, .bool t1.opn]) (by simp [results, Tryz.results79, go_sem, z0, z1, z2, z3, z4]) rfl ?_
  have HR := HM6.out.drop1
  exact ⟨O, aa, ca, al, cl, rfl, HJ1.out, HR.front 1 rfl⟩
end Go.Proofs.YtljmcmdabdlldaaGreatDoor.typ
namespace Go.Tre
theorem parse_le (l : List Tok) : ∀ k, (∀ n i t j, pLev l k n i = some (t, j) → i ≤ j) ∧ (∀ t0 i t j, pAs l k t0 i = some (t, j) → i ≤ j) ∧ (∀ ls ts i t j, pObj l k ls ts i = some (t, j) → i ≤ j) := by
 intro k
 induction k with
 | zero =>
  refine ⟨fun n i t j h => ?_, fun t0 i t j h => ?_, fun ls ts i t j h => ?_⟩
  ·rw [pLev] at h; cases h
  ·rw [pAs] at h; cases h
  ·rw [pObj] at h; cases h
 | succ k ih =>
  obtain ⟨h1, h2, h3⟩ := ih
  refine ⟨fun n i t j h => ?_, fun t0 i t j h => ?_, fun ls ts i t j h => ?_⟩
  ·rw [pLev] at h
   split at h
   ·obtain ⟨r, e1, e2⟩ := Option.bind_eq_some_iff.1 h
    have := h1 _ _ _ _ e1
    have := h2 _ _ _ _ e2
    omega
   ·split at h
    ·obtain ⟨r, e1, e2⟩ := Option.bind_eq_some_iff.1 h
     have a1 := h1 _ _ _ _ e1
     split at e2
     ·obtain ⟨q, e3, e4⟩ := Option.map_eq_some_iff.1 e2
      have a2 := h1 _ _ _ _ e3
      cases e4; omega
     ·cases e2; omega
    ·split at h
     ·cases h; omega
     ·split at h
      ·split at h
       ·cases h; omega
       ·cases h
      ·split at h
       ·obtain ⟨r, e1, e2⟩ := Option.bind_eq_some_iff.1 h
        have a1 := h1 _ _ _ _ e1
        split at e2
        ·cases e2; omega
        ·cases e2
       ·split at h
        ·split at h
         ·cases h; omega
         ·have := h3 _ _ _ _ _ h
          omega
        ·cases h
  ·rw [pAs] at h
   split at h
   ·obtain ⟨r, e1, e2⟩ := Option.bind_eq_some_iff.1 h
    have := h2 _ _ _ _ e2
    omega
   ·cases h; omega
  ·rw [pObj] at h
   split at h
   ·split at h
    ·cases h; omega
    ·cases h
   ·obtain ⟨s, e1, e2⟩ := Option.bind_eq_some_iff.1 h
    split at e2
    ·obtain ⟨r, e3, e4⟩ := Option.bind_eq_some_iff.1 e2
     have a1 := h1 _ _ _ _ e3
     split at e4
     ·cases e4
     ·split at e4
      ·cases e4; omega
      ·split at e4
       ·have := h3 _ _ _ _ _ e4
        omega
       ·cases e4
    ·cases e2
theorem pLev_le {l : List Tok} {k n i j : Nat} {t : Ty} (h : pLev l k n i = some (t, j)) : i ≤ j := (parse_le l k).1 n i t j h
end Go.Tre
namespace Go.Proofs.YtljmcmdabdlldaaGreatDoor.typ
open Go.RowKit Go.Tre
theorem infoStr : (Tryz.prog.info? 9).map (fun i => (i.zero, i.size, i.bytes)) = some (some (.string ⟨#[]⟩), 1, 16) := by kernel_rfl
theorem infoTy : (Tryz.prog.info? 28).map (fun i => (i.zero, i.size, i.bytes)) = some (some (.agg #[.int .i64 0, .string ⟨#[]⟩, .slice none 0 0, .slice none 0 0, .bool false]), 5, 80) := by kernel_rfl
set_option maxRecDepth 100000 in
set_option maxHeartbeats 2000000 in
theorem insStr (w0 : World) (rs : List Res) (w : World) (al : Option Addr) (n cl nb : Nat) (xs : List Value) (u : Value) (hM : Mem w0 w (rowR 9 1 (.slice al n cl) n xs :: rowR 9 1 (.slice (some ⟨nb, 0, none⟩) 1 1) 1 [u] :: rs)) (hn : n ≤ 4194304) (hu : u.oneCell' = true) :
  Calls Tryz.prog 138 #[.slice al n cl, .int .i64 n, .slice (some ⟨nb, 0, none⟩) 1 1] w fun e w' => ∃ a c, e = .returned (.slice a (n + 1 : Nat) c) ∧ Mem w0 w' (rowR 9 1 (.slice a (n + 1) c) (n + 1) (xs ++ [u]) :: rowR 9 1 (.slice (some ⟨nb, 0, none⟩) 1 1) 1 [u] :: rs) := by
 obtain ⟨si, T1, T2, T3, T4⟩ := info_parts infoStr
 have K2 := Tre.hid T2
 have K3 := Tre.hid T3
 have K4 := Tre.hid T4
 obtain ⟨_, _, e, hcl⟩ := hM.val 0 rfl
 cases e
 have HM := Tre.hid hM
 have hnn : ((n : Int) == (n : Int)) = true := beq_self_eq_true _
 clear hM T2 T3 T4
 go_enter Tryz.func138, Tryz.ntmps138
 go_wp2_with (at_builtin; refine wpList_append_row _ rfl _ _ 26 rfl 9 si _ 1 16 Tryz.underlying26 T1 K2.out K3.out K4.out rfl (by omega) (.slice al n cl) n xs rfl (HM.out.row 0 rfl) (some ⟨nb, 0, none⟩) 1 1 [u] rfl ⟨rfl, fun j x hj => ⟨_, 0, rfl, by rw [Nat.zero_add]; exact HM.out.cellAt 1 rfl j hj⟩⟩ (by simpa using hu) (by unfold maxLen; omega) (by omega) ?_; intro v9 w9 hown9 hgrow9 hat9; have M9 := HM.out.grow 0 rfl hgrow9 hown9 hat9; obtain ⟨a9, c9, rfl, _⟩ := M9.val 0 rfl; have HM9 := Tre.hid M9; clear M9 hown9 hgrow9 hat9)
 all_goals
  go_ret
  exact ⟨a9, c9, rfl, HM9.out⟩
set_option maxRecDepth 100000 in
set_option maxHeartbeats 2000000 in
theorem insTy (w0 : World) (rs : List Res) (w : World) (al : Option Addr) (n cl nb : Nat) (xs us : List Value) (hM : Mem w0 w (rowR 28 5 (.slice al n cl) n xs :: rowR 28 5 (.slice (some ⟨nb, 0, none⟩) 1 1) 1 us :: rs)) (hn : n ≤ 4194304) (hu : ∀ u ∈ us, u.oneCell' = true) :
  Calls Tryz.prog 139 #[.slice al n cl, .int .i64 n, .slice (some ⟨nb, 0, none⟩) 1 1] w fun e w' => ∃ a c, e = .returned (.slice a (n + 1 : Nat) c) ∧ Mem w0 w' (rowR 28 5 (.slice a (n + 1) c) (n + 1) (xs ++ us) :: rowR 28 5 (.slice (some ⟨nb, 0, none⟩) 1 1) 1 us :: rs) := by
 obtain ⟨si, T1, T2, T3, T4⟩ := info_parts infoTy
 have K2 := Tre.hid T2
 have K3 := Tre.hid T3
 have K4 := Tre.hid T4
 obtain ⟨_, _, e, hcl⟩ := hM.val 0 rfl
 cases e
 have HM := Tre.hid hM
 have hlen : us.length = 1 * 5 := (hM.row 1 rfl).1
 have HL := Tre.hid hlen
 have HU := Tre.hid hu
 have hnn : ((n : Int) == (n : Int)) = true := beq_self_eq_true _
 clear hM T2 T3 T4 hlen hu
 go_enter Tryz.func139, Tryz.ntmps139
 go_wp2_with (at_builtin; refine wpList_append_row _ rfl _ _ 25 rfl 28 si _ 5 80 Tryz.underlying25 T1 K2.out K3.out K4.out rfl (by omega) (.slice al n cl) n xs rfl (HM.out.row 0 rfl) (some ⟨nb, 0, none⟩) 1 1 us rfl ⟨HL.out, fun j x hj => ⟨_, 0, rfl, by rw [Nat.zero_add]; exact HM.out.cellAt 1 rfl j hj⟩⟩ HU.out (by unfold maxLen; omega) (by omega) ?_; intro v9 w9 hown9 hgrow9 hat9; have M9 := HM.out.grow 0 rfl hgrow9 hown9 hat9; obtain ⟨a9, c9, rfl, _⟩ := M9.val 0 rfl; have HM9 := Tre.hid M9; clear M9 hown9 hgrow9 hat9)
 all_goals
  go_ret
  exact ⟨a9, c9, rfl, HM9.out⟩
end Go.Proofs.YtljmcmdabdlldaaGreatDoor.typ
