/- typ: the parser's level: a row of stars. lex.IsName. Plain: which nodes may be; labels that rise. slices.Index, Contains over strings; slices.IndexFunc over tokens; typ.text; slices.BinarySearch where all stand ahead. -/
import Derived.Test.YtbafalfmgibnfaaGreatDoorB12
import Derived.Test.YtbafalfmgibnfaaGreatDoorB02
import Derived.Test.YtbafalfmgibnfaaGreatDoorB00
import Derived.Test.YtbafalfmgibnfaaGreatDoorB10
import Derived.Test.YtbafalfmgibnfaaGreatDoorB01
set_option linter.unusedVariables false
namespace Go.Proofs.YtbafalfmgibnfaaGreatDoor.typ
open Go.RowKit Go.Tre
set_option maxRecDepth 100000 in
set_option maxHeartbeats 8000000 in
theorem level2 (w0 : World) (b : Nat) (ad : Option Addr) (c : Nat) (l : List Tok) (hl : ToksAt w0 ad l) (he : TokEnds l) (hll : l.length ≤ 4194304) (k : Nat) (ih : LevAt w0 b ad c l k) (rs : List Res) (i j : Nat) (t : Ty) (w : World) (hi : i < l.length) (hp : pLev l (k + 1) 2 i = some (t, j)) (hM : Mem w0 w (parR b ad l.length c i :: rs)) :
  Calls Tryz.prog 42 #[.pointer (some ⟨b, 0, none⟩), .int .i64 2] w (LevPost w0 b ad c l rs t j) := by
 have hp' := hp
 rw [pLevB _ _ _ _ (by omega)] at hp'
 obtain ⟨⟨t1, i1⟩, h1, h2⟩ := Option.bind_eq_some_iff.1 hp'
 have HP : Hid ((if tk l i1 6 [42] = true then (pLev l k 2 (i1 + 1)).map fun q => (Ty.mk 2 [42] [t1, q.1] [] false, q.2) else some (t1, i1)) = some (t, j)) := h2
 have HP1 := Tre.hid h1
 have HL := Tre.hid hl
 have HE := Tre.hid he
 have IH := Tre.hid ih
 have M0 := Tre.hid (hM.allocR #[.int .i64 0, .string ⟨#[]⟩, .slice none 0 0, .slice none 0 0, .bool false] 28)
 clear hl he ih hp hp' h1 h2 hM
 go_enter Tryz.func42, Tryz.ntmps42
 go_wp2_with fail
 refine (IH.out _ 3 i i1 t1 _ hi (by omega) HP1.out ((M0.out.alloc _).front 1 rfl)).mono ?_
 rintro e w1 ⟨O, aa, ca, al, cl, rfl, hj1, M1⟩
 generalize w.heap.size = tb at *
 have g0 : w1.cell? ⟨tb, 0, none⟩ = some (.int .i64 0) := M1.cell 2 rfl 0 rfl
 have g1 : w1.cell? ⟨tb, 1, none⟩ = some (.string ⟨#[]⟩) := M1.cell 2 rfl 1 rfl
 have g2 : w1.cell? ⟨tb, 2, none⟩ = some (.slice none 0 0) := M1.cell 2 rfl 2 rfl
 have g3 : w1.cell? ⟨tb, 3, none⟩ = some (.slice none 0 0) := M1.cell 2 rfl 3 rfl
 have g4 : w1.cell? ⟨tb, 4, none⟩ = some (.bool false) := M1.cell 2 rfl 4 rfl
 have f0 := M1.free 2 rfl 0
 have f1 := M1.free 2 rfl 1
 have f2 := M1.free 2 rfl 2
 have f3 := M1.free 2 rfl 3
 have f4 := M1.free 2 rfl 4
 have M2 := (((((M1.setCell 2 rfl 0 (.int .i64 (t1.kind : Int))).setCell 2 rfl 1 (.string ⟨t1.s.toArray⟩)).setCell 2 rfl 2 (.slice aa t1.args.length ca)).setCell 2 rfl 3 (.slice al t1.labels.length cl)).setCell 2 rfl 4 (.bool t1.opn))
 have M2b : Mem w0 _ (cellsR tb 28 #[.int .i64 (t1.kind : Int), .string ⟨t1.s.toArray⟩, .slice aa t1.args.length ca, .slice al t1.labels.length cl, .bool t1.opn] :: tyR O t1 (.agg #[.int .i64 (t1.kind : Int), .string ⟨t1.s.toArray⟩, .slice aa t1.args.length ca, .slice al t1.labels.length cl, .bool t1.opn]) :: parR b ad l.length c i1 :: rs) := M2.front 2 rfl
 have HM2 := Tre.hid M2b
 clear M2b
 have HJ1 := Tre.hid hj1
 clear M1 M2 hj1 M0 HP1
 go_wp2_with fail
 by_cases hk : tk l i1 6 [42] = true
 ·have hpm := HP.out
  rw [if_pos hk] at hpm
  obtain ⟨⟨t2, j2⟩, hq, hq2⟩ := Option.map_eq_some_iff.1 hpm
  cases hq2
  have HK := Tre.hid hk
  have HP2 := Tre.hid hq
  have HI2 := Tre.hid (tk_lt HE.out (by omega) hk)
  clear hk hpm hq HP g0 g1 g2 g3 g4 f0 f1 f2 f3 f4
  refine (takes w0 _ b ad c l i1 6 ⟨#[42]⟩ _ (HM2.out.front 2 rfl) HL.out HJ1.out hll true HK.out).mono ?_
  rintro e w2 ⟨rfl, M3⟩
  rw [if_pos rfl] at M3
  have HM3 := Tre.hid M3
  have p0 : w2.cell? ⟨tb, 0, none⟩ = some (.int .i64 (t1.kind : Int)) := M3.cell 1 rfl 0 rfl
  have p1 : w2.cell? ⟨tb, 1, none⟩ = some (.string ⟨t1.s.toArray⟩) := M3.cell 1 rfl 1 rfl
  have p2 : w2.cell? ⟨tb, 2, none⟩ = some (.slice aa t1.args.length ca) := M3.cell 1 rfl 2 rfl
  have p3 : w2.cell? ⟨tb, 3, none⟩ = some (.slice al t1.labels.length cl) := M3.cell 1 rfl 3 rfl
  have p4 : w2.cell? ⟨tb, 4, none⟩ = some (.bool t1.opn) := M3.cell 1 rfl 4 rfl
  clear M3 HM2 HK
  go_wp2_with fail
  have cS : Cond (fun w' => w'.cell? ⟨tb, 0, none⟩ = some (.int .i64 (t1.kind : Int)) ∧ w'.cell? ⟨tb, 1, none⟩ = some (.string ⟨t1.s.toArray⟩) ∧ w'.cell? ⟨tb, 2, none⟩ = some (.slice aa t1.args.length ca) ∧ w'.cell? ⟨tb, 3, none⟩ = some (.slice al t1.labels.length cl) ∧ w'.cell? ⟨tb, 4, none⟩ = some (.bool t1.opn)) := ⟨⟩
  refine cS.keep [5, 7] ?_ (fun hH0 => ?_)
  ·exact ⟨p0, p1, p2, p3, p4⟩
  have H0 := Tre.hid HM3.out.drew
  generalize hq : w2.drew = wq0 at H0 hH0 ⊢
  clear hq p0 p1 p2 p3 p4 HM3
  refine lPq 0 (some 33) (v := ?_) rfl ?_ (keep_of hH0) ?_
  rotate_left
  ·intro w; go_simp <;> with_reducible rfl
  try simp only [Act.put, zqf, zqg, zqh]
  refine lPq 2 (some 35) (v := ?_) rfl ?_ (keep_of hH0) ?_
  rotate_left
  ·intro w; go_simp <;> with_reducible rfl
  try simp only [Act.put, zqf, zqg, zqh]
  refine lPq 3 (some 36) (v := ?_) rfl ?_ (keep_of hH0) ?_
  rotate_left
  ·intro w; go_simp <;> with_reducible rfl
  try simp only [Act.put, zqf, zqg, zqh]
  refine lTq 1 (some 34) (v := ?_) rfl ?_ hH0 ?_
  rotate_left
  ·intro w hSw; (try dsimp only at hSw); go_simp <;> with_reducible rfl
  try simp only [Act.put, zqf, zqg, zqh]
  refine lOne 4 (by kernel_rfl) (LStep.op (fun K hK => ?_))
  go_simp
  refine (IH.out _ 2 (i1 + 1) j2 t2 _ HI2.out (by omega) HP2.out (H0.out.front 0 rfl)).mono ?_
  rintro e wq1 ⟨O2, aa2, ca2, al2, cl2, rfl, hj2, m⟩
  have H1 := Tre.hid m
  have HJ2 := Tre.hid hj2
  have k0 : wq1.cell? ⟨tb, 0, none⟩ = some (.int .i64 (t1.kind : Int)) := m.cell 2 rfl 0 rfl
  have k1 : wq1.cell? ⟨tb, 1, none⟩ = some (.string ⟨t1.s.toArray⟩) := m.cell 2 rfl 1 rfl
  have k2 : wq1.cell? ⟨tb, 2, none⟩ = some (.slice aa t1.args.length ca) := m.cell 2 rfl 2 rfl
  have k3 : wq1.cell? ⟨tb, 3, none⟩ = some (.slice al t1.labels.length cl) := m.cell 2 rfl 3 rfl
  have k4 : wq1.cell? ⟨tb, 4, none⟩ = some (.bool t1.opn) := m.cell 2 rfl 4 rfl
  have K0 := Tre.hid k0
  have K1 := Tre.hid k1
  have K2 := Tre.hid k2
  have K3 := Tre.hid k3
  have K4 := Tre.hid k4
  clear m hj2 k0 k1 k2 k3 k4
  refine hK.out _ _ ?_ (fun hH1 => ?_)
  ·exact ⟨K0.out, K1.out, K2.out, K3.out, K4.out⟩
  clear hK K hH0
  try simp only [Act.put, zqf, zqg, zqh]
  refine lOne 5 (by kernel_rfl) (LFall.op (by kernel_rfl) (fun K hK => ?_))
  have MA := H1.out.allocRow #[.int .i64 (t1.kind : Int), .string ⟨t1.s.toArray⟩, .slice aa t1.args.length ca, .slice al t1.labels.length cl, .bool t1.opn, .int .i64 (t2.kind : Int), .string ⟨t2.s.toArray⟩, .slice aa2 t2.args.length ca2, .slice al2 t2.labels.length cl2, .bool t2.opn] 28 5 2 (by unfold maxLen; omega) rfl
  go_simp
  generalize hnb : wq1.heap.size = nb at MA ⊢
  generalize hw : wq1.alloc (.cells #[.int .i64 (t1.kind : Int), .string ⟨t1.s.toArray⟩, .slice aa t1.args.length ca, .slice al t1.labels.length cl, .bool t1.opn, .int .i64 (t2.kind : Int), .string ⟨t2.s.toArray⟩, .slice aa2 t2.args.length ca2, .slice al2 t2.labels.length cl2, .bool t2.opn] 28) = wq2 at MA ⊢
  have H2 := Tre.hid MA
  clear MA hw hnb
  refine hK.out _ _ ?_
  clear hK K hH1
  try simp only [Act.put, zqf, zqg, zqh]
  refine lPq 6 (some 39) (v := ?_) rfl ?_ (keep_fell (by kernel_rfl)) ?_
  rotate_left
  ·intro w; go_simp <;> with_reducible rfl
  try simp only [Act.put, zqf, zqg, zqh]
  refine lOne 7 (by kernel_rfl) (LFall.op (by kernel_rfl) (fun K hK => ?_))
  have g0 : wq2.cell? ⟨tb, 0, none⟩ = some (.int .i64 (t1.kind : Int)) := H2.out.cell 3 rfl 0 rfl
  have g1 : wq2.cell? ⟨tb, 1, none⟩ = some (.string ⟨t1.s.toArray⟩) := H2.out.cell 3 rfl 1 rfl
  have g2 : wq2.cell? ⟨tb, 2, none⟩ = some (.slice aa t1.args.length ca) := H2.out.cell 3 rfl 2 rfl
  have g3 : wq2.cell? ⟨tb, 3, none⟩ = some (.slice al t1.labels.length cl) := H2.out.cell 3 rfl 3 rfl
  have g4 : wq2.cell? ⟨tb, 4, none⟩ = some (.bool t1.opn) := H2.out.cell 3 rfl 4 rfl
  have f0 := H2.out.free 3 rfl 0
  have f1 := H2.out.free 3 rfl 1
  have f2 := H2.out.free 3 rfl 2
  have f3 := H2.out.free 3 rfl 3
  have f4 := H2.out.free 3 rfl 4
  have H9 := (((((H2.out.setCell 3 rfl 0 (.int .i64 2)).setCell 3 rfl 1 (.string ⟨#[42]⟩)).setCell 3 rfl 2 (.slice (some ⟨nb, 0, none⟩) 2 2)).setCell 3 rfl 3 (.slice none 0 0)).setCell 3 rfl 4 (.bool false))
  go_simp
  generalize hw : (((((wq2.setCell ⟨tb, 0, none⟩ (.int .i64 2)).setCell ⟨tb, 1, none⟩ (.string ⟨#[42]⟩)).setCell ⟨tb, 2, none⟩ (.slice (some ⟨nb, 0, none⟩) 2 2)).setCell ⟨tb, 3, none⟩ (.slice none 0 0)).setCell ⟨tb, 4, none⟩ (.bool false)) = wq3 at H9 ⊢
  have H3 := Tre.hid H9
  clear H9 hw g0 g1 g2 g3 g4 f0 f1 f2 f3 f4
  refine hK.out _ _ ?_
  clear hK K
  try simp only [Act.put, zqf, zqg, zqh]
  refine lDone (by kernel_rfl) ?_
  have MB := (((((H3.out.front 2 rfl).front 3 rfl).front 3 rfl).front 4 rfl).front 4 rfl)
  have MC := ((MB.addNil 9 1).front 1 rfl)
  have MD := Mem.tyMake (kids := [⟨t1, #[.int .i64 (t1.kind : Int), .string ⟨t1.s.toArray⟩, .slice aa t1.args.length ca, .slice al t1.labels.length cl, .bool t1.opn], O⟩, ⟨t2, #[.int .i64 (t2.kind : Int), .string ⟨t2.s.toArray⟩, .slice aa2 t2.args.length ca2, .slice al2 t2.labels.length cl2, .bool t2.opn], O2⟩]) (labels := []) 2 [42] false MC rfl rfl (by simp [kidCells])
  have MD2 : Mem w0 wq3 (cellsR tb 28 #[.int .i64 2, .string ⟨#[42]⟩, .slice (some ⟨nb, 0, none⟩) 2 2, .slice none 0 0, .bool false] :: _) := MD.front 1 rfl
  have HM3 := Tre.hid MD2
  clear MB MC MD MD2
  have MT : Mem w0 wq3 (cellsR tb 28 #[.int .i64 2, .string ⟨#[42]⟩, .slice (some ⟨nb, 0, none⟩) 2 2, .slice none 0 0, .bool false] :: _) := HM3.out.front 0 rfl
  have g0 : wq3.cell? ⟨tb, 0, none⟩ = some (.int .i64 2) := MT.cell 0 rfl 0 rfl
  have g1 : wq3.cell? ⟨tb, 1, none⟩ = some (.string ⟨#[42]⟩) := MT.cell 0 rfl 1 rfl
  have g2 : wq3.cell? ⟨tb, 2, none⟩ = some (.slice (some ⟨nb, 0, none⟩) 2 2) := MT.cell 0 rfl 2 rfl
  have g3 : wq3.cell? ⟨tb, 3, none⟩ = some (.slice none 0 0) := MT.cell 0 rfl 3 rfl
  have g4 : wq3.cell? ⟨tb, 4, none⟩ = some (.bool false) := MT.cell 0 rfl 4 rfl
  have f0 := MT.free 0 rfl 0
  have f1 := MT.free 0 rfl 1
  have f2 := MT.free 0 rfl 2
  have f3 := MT.free 0 rfl 3
  have f4 := MT.free 0 rfl 4
  have M6 : Mem w0 (((((wq3.setCell ⟨tb, 0, none⟩ (.int .i64 2)).setCell ⟨tb, 1, none⟩ (.string ⟨#[42]⟩)).setCell ⟨tb, 2, none⟩ (.slice (some ⟨nb, 0, none⟩) 2 2)).setCell ⟨tb, 3, none⟩ (.slice none 0 0)).setCell ⟨tb, 4, none⟩ (.bool false)) (cellsR tb 28 #[.int .i64 2, .string ⟨#[42]⟩, .slice (some ⟨nb, 0, none⟩) 2 2, .slice none 0 0, .bool false] :: _) := (((((MT.setCell 0 rfl 0 (.int .i64 2)).setCell 0 rfl 1 (.string ⟨#[42]⟩)).setCell 0 rfl 2 (.slice (some ⟨nb, 0, none⟩) 2 2)).setCell 0 rfl 3 (.slice none 0 0)).setCell 0 rfl 4 (.bool false))
  have HM6 := Tre.hid M6
  clear M6 MT
  go_wp2_with fail
  have z0 : (((((wq3.setCell ⟨tb, 0, none⟩ (.int .i64 2)).setCell ⟨tb, 1, none⟩ (.string ⟨#[42]⟩)).setCell ⟨tb, 2, none⟩ (.slice (some ⟨nb, 0, none⟩) 2 2)).setCell ⟨tb, 3, none⟩ (.slice none 0 0)).setCell ⟨tb, 4, none⟩ (.bool false)).cell? ⟨tb, 0, none⟩ = some (.int .i64 2) := HM6.out.cell 0 rfl 0 rfl
  have z1 : (((((wq3.setCell ⟨tb, 0, none⟩ (.int .i64 2)).setCell ⟨tb, 1, none⟩ (.string ⟨#[42]⟩)).setCell ⟨tb, 2, none⟩ (.slice (some ⟨nb, 0, none⟩) 2 2)).setCell ⟨tb, 3, none⟩ (.slice none 0 0)).setCell ⟨tb, 4, none⟩ (.bool false)).cell? ⟨tb, 1, none⟩ = some (.string ⟨#[42]⟩) := HM6.out.cell 0 rfl 1 rfl
  have z2 : (((((wq3.setCell ⟨tb, 0, none⟩ (.int .i64 2)).setCell ⟨tb, 1, none⟩ (.string ⟨#[42]⟩)).setCell ⟨tb, 2, none⟩ (.slice (some ⟨nb, 0, none⟩) 2 2)).setCell ⟨tb, 3, none⟩ (.slice none 0 0)).setCell ⟨tb, 4, none⟩ (.bool false)).cell? ⟨tb, 2, none⟩ = some (.slice (some ⟨nb, 0, none⟩) 2 2) := HM6.out.cell 0 rfl 2 rfl
  have z3 : (((((wq3.setCell ⟨tb, 0, none⟩ (.int .i64 2)).setCell ⟨tb, 1, none⟩ (.string ⟨#[42]⟩)).setCell ⟨tb, 2, none⟩ (.slice (some ⟨nb, 0, none⟩) 2 2)).setCell ⟨tb, 3, none⟩ (.slice none 0 0)).setCell ⟨tb, 4, none⟩ (.bool false)).cell? ⟨tb, 3, none⟩ = some (.slice none 0 0) := HM6.out.cell 0 rfl 3 rfl
  have z4 : (((((wq3.setCell ⟨tb, 0, none⟩ (.int .i64 2)).setCell ⟨tb, 1, none⟩ (.string ⟨#[42]⟩)).setCell ⟨tb, 2, none⟩ (.slice (some ⟨nb, 0, none⟩) 2 2)).setCell ⟨tb, 3, none⟩ (.slice none 0 0)).setCell ⟨tb, 4, none⟩ (.bool false)).cell? ⟨tb, 4, none⟩ = some (.bool false) := HM6.out.cell 0 rfl 4 rfl
  refine bodyPost_ret (v := .agg #[.int .i64 2, .string ⟨#[42]⟩, .slice (some ⟨nb, 0, none⟩) 2 2, .slice none 0 0, .bool false]) (by simp [results, Tryz.results42, go_sem, z0, z1, z2, z3, z4]) rfl ?_
  have HR := HM6.out.drop1
  exact ⟨_, _, _, _, _, rfl, HJ2.out, HR⟩
 ·have hpm := HP.out
  rw [if_neg hk] at hpm
  injection hpm with hpm
  injection hpm with e1 e2
  subst e1 e2
  have HK : Hid (tk l i1 6 [42] = false) := by show _ = _; simpa using hk
  clear hk HP g0 g1 g2 g3 g4 f0 f1 f2 f3 f4
  refine (takes w0 _ b ad c l i1 6 ⟨#[42]⟩ _ (HM2.out.front 2 rfl) HL.out HJ1.out hll false HK.out).mono ?_
  rintro e w2 ⟨rfl, M3⟩
  rw [if_neg (by simp)] at M3
  have HM3 := Tre.hid M3
  clear M3 HM2 HK
  have MT : Mem w0 w2 (cellsR tb 28 #[.int .i64 (t1.kind : Int), .string ⟨t1.s.toArray⟩, .slice aa t1.args.length ca, .slice al t1.labels.length cl, .bool t1.opn] :: _) := HM3.out.front 1 rfl
  have g0 : w2.cell? ⟨tb, 0, none⟩ = some (.int .i64 (t1.kind : Int)) := MT.cell 0 rfl 0 rfl
  have g1 : w2.cell? ⟨tb, 1, none⟩ = some (.string ⟨t1.s.toArray⟩) := MT.cell 0 rfl 1 rfl
  have g2 : w2.cell? ⟨tb, 2, none⟩ = some (.slice aa t1.args.length ca) := MT.cell 0 rfl 2 rfl
  have g3 : w2.cell? ⟨tb, 3, none⟩ = some (.slice al t1.labels.length cl) := MT.cell 0 rfl 3 rfl
  have g4 : w2.cell? ⟨tb, 4, none⟩ = some (.bool t1.opn) := MT.cell 0 rfl 4 rfl
  have f0 := MT.free 0 rfl 0
  have f1 := MT.free 0 rfl 1
  have f2 := MT.free 0 rfl 2
  have f3 := MT.free 0 rfl 3
  have f4 := MT.free 0 rfl 4
  have M6 : Mem w0 (((((w2.setCell ⟨tb, 0, none⟩ (.int .i64 (t1.kind : Int))).setCell ⟨tb, 1, none⟩ (.string ⟨t1.s.toArray⟩)).setCell ⟨tb, 2, none⟩ (.slice aa t1.args.length ca)).setCell ⟨tb, 3, none⟩ (.slice al t1.labels.length cl)).setCell ⟨tb, 4, none⟩ (.bool t1.opn)) (cellsR tb 28 #[.int .i64 (t1.kind : Int), .string ⟨t1.s.toArray⟩, .slice aa t1.args.length ca, .slice al t1.labels.length cl, .bool t1.opn] :: _) := (((((MT.setCell 0 rfl 0 (.int .i64 (t1.kind : Int))).setCell 0 rfl 1 (.string ⟨t1.s.toArray⟩)).setCell 0 rfl 2 (.slice aa t1.args.length ca)).setCell 0 rfl 3 (.slice al t1.labels.length cl)).setCell 0 rfl 4 (.bool t1.opn))
  have HM6 := Tre.hid M6
  clear M6 MT
  go_wp2_with fail
  have z0 : (((((w2.setCell ⟨tb, 0, none⟩ (.int .i64 (t1.kind : Int))).setCell ⟨tb, 1, none⟩ (.string ⟨t1.s.toArray⟩)).setCell ⟨tb, 2, none⟩ (.slice aa t1.args.length ca)).setCell ⟨tb, 3, none⟩ (.slice al t1.labels.length cl)).setCell ⟨tb, 4, none⟩ (.bool t1.opn)).cell? ⟨tb, 0, none⟩ = some (.int .i64 (t1.kind : Int)) := HM6.out.cell 0 rfl 0 rfl
  have z1 : (((((w2.setCell ⟨tb, 0, none⟩ (.int .i64 (t1.kind : Int))).setCell ⟨tb, 1, none⟩ (.string ⟨t1.s.toArray⟩)).setCell ⟨tb, 2, none⟩ (.slice aa t1.args.length ca)).setCell ⟨tb, 3, none⟩ (.slice al t1.labels.length cl)).setCell ⟨tb, 4, none⟩ (.bool t1.opn)).cell? ⟨tb, 1, none⟩ = some (.string ⟨t1.s.toArray⟩) := HM6.out.cell 0 rfl 1 rfl
  have z2 : (((((w2.setCell ⟨tb, 0, none⟩ (.int .i64 (t1.kind : Int))).setCell ⟨tb, 1, none⟩ (.string ⟨t1.s.toArray⟩)).setCell ⟨tb, 2, none⟩ (.slice aa t1.args.length ca)).setCell ⟨tb, 3, none⟩ (.slice al t1.labels.length cl)).setCell ⟨tb, 4, none⟩ (.bool t1.opn)).cell? ⟨tb, 2, none⟩ = some (.slice aa t1.args.length ca) := HM6.out.cell 0 rfl 2 rfl
  have z3 : (((((w2.setCell ⟨tb, 0, none⟩ (.int .i64 (t1.kind : Int))).setCell ⟨tb, 1, none⟩ (.string ⟨t1.s.toArray⟩)).setCell ⟨tb, 2, none⟩ (.slice aa t1.args.length ca)).setCell ⟨tb, 3, none⟩ (.slice al t1.labels.length cl)).setCell ⟨tb, 4, none⟩ (.bool t1.opn)).cell? ⟨tb, 3, none⟩ = some (.slice al t1.labels.length cl) := HM6.out.cell 0 rfl 3 rfl
  have z4 : (((((w2.setCell ⟨tb, 0, none⟩ (.int .i64 (t1.kind : Int))).setCell ⟨tb, 1, none⟩ (.string ⟨t1.s.toArray⟩)).setCell ⟨tb, 2, none⟩ (.slice aa t1.args.length ca)).setCell ⟨tb, 3, none⟩ (.slice al t1.labels.length cl)).setCell ⟨tb, 4, none⟩ (.bool t1.opn)).cell? ⟨tb, 4, none⟩ = some (.bool t1.opn) := HM6.out.cell 0 rfl 4 rfl
  refine bodyPost_ret (v := .agg #[.int .i64 (t1.kind : Int), .string ⟨t1.s.toArray⟩, .slice aa t1.args.length ca, .slice al t1.labels.length cl, .bool t1.opn]) (by simp [results, Tryz.results42, go_sem, z0, z1, z2, z3, z4]) rfl ?_
  have HR := HM6.out.drop1
  exact ⟨O, aa, ca, al, cl, rfl, HJ1.out, HR.front 1 rfl⟩
end Go.Proofs.YtbafalfmgibnfaaGreatDoor.typ
namespace Go.Proofs.YtbafalfmgibnfaaGreatDoor.lex
open Go.RowKit Go.Tre
set_option maxHeartbeats 1000000 in
theorem isName_any (s : ByteArray) (w : World) (hs : s.size ≤ 8388608) (hm : MaxAt w) :
  Calls Tryz.prog 14 #[.string s] w fun e w' => e = .returned (.bool (isName s)) ∧ w = w' := by
 by_cases h0 : s.size = 0
 ·have H : Hid (isName s = false) := isName_of (by simp [h0])
  have e0 := emp1 h0
  have e1 : (!s.toList.isEmpty) = false := by rw [e0]; rfl
  clear h0
  go_enter Tryz.func14, Tryz.ntmps14
  go_wp2_with fail
  go_ret
  exact ⟨ret_bool H.out.symm, rfl⟩
 ·have e0 := emp0 h0
  have e1 : (!s.toList.isEmpty) = true := by rw [e0]; rfl
  by_cases h1 : s.size ≤ 100
  ·by_cases h2 : wordLen s = s.size
   ·have H : Hid (isName s = !isKey s) := isName_of (by simp [h0, h1, h2])
    have e2 : ((wordLen s : Int) == (s.size : Int)) = true := by rw [h2]; simp
    clear h0 h2
    go_enter Tryz.func14, Tryz.ntmps14
    go_wp2_with fail
    refine (word s _ hs).mono ?_
    rintro e w' ⟨rfl, rfl⟩
    go_wp2_with fail
    refine (isKey_any s _ hs hm).mono ?_
    rintro e w' ⟨rfl, rfl⟩
    go_wp2_with fail
    go_ret
    exact ⟨ret_bool H.out.symm, rfl⟩
   ·have H : Hid (isName s = false) := isName_of (by simp [h2])
    have e2 : ((wordLen s : Int) == (s.size : Int)) = false := by simp; omega
    clear h0 h2
    go_enter Tryz.func14, Tryz.ntmps14
    go_wp2_with fail
    refine (word s _ hs).mono ?_
    rintro e w' ⟨rfl, rfl⟩
    go_wp2_with fail
    go_ret
    exact ⟨ret_bool H.out.symm, rfl⟩
  ·have H : Hid (isName s = false) := isName_of (by simp [h1])
   clear h0
   go_enter Tryz.func14, Tryz.ntmps14
   go_wp2_with fail
   go_ret
   exact ⟨ret_bool H.out.symm, rfl⟩

end Go.Proofs.YtbafalfmgibnfaaGreatDoor.lex
namespace Go.Tre
def arity : ByteArray → Option Int := upd (upd (upd (upd (upd (upd (fun _ => none) ⟨#[105, 110, 116]⟩ 0) ⟨#[98, 111, 111, 108]⟩ 0) ⟨#[115, 116, 114, 105, 110, 103]⟩ 0) ⟨#[117, 110, 105, 116]⟩ 0) ⟨#[45, 62]⟩ 2) ⟨#[42]⟩ 2
def labelOk (l : List ByteArray) (i : Nat) : Bool := isName (l.getD i ByteArray.empty) && (i == 0 || Op.bytesLess (l.getD (i - 1) ByteArray.empty).toList (l.getD i ByteArray.empty).toList)
def rising (l : List ByteArray) : Bool := (List.range l.length).all (labelOk l)
def idxFunc {α : Type} (p : α → Bool) (xs : List α) : Int := if xs.findIdx p < xs.length then (xs.findIdx p : Int) else -1
theorem idxFunc_hit {α : Type} {p : α → Bool} {xs : List α} {k : Nat} (h : k < xs.length) (hp : p xs[k] = true) (hn : ∀ j (hj : j < xs.length), j < k → p xs[j] = false) : idxFunc p xs = k := by
 have : xs.findIdx p = k := (List.findIdx_eq h).2 ⟨hp, fun j hj => hn j (by omega) hj⟩
 unfold idxFunc; rw [this, if_pos h]
theorem idxFunc_miss {α : Type} {p : α → Bool} {xs : List α} (hn : ∀ j (hj : j < xs.length), p xs[j] = false) : idxFunc p xs = -1 := by
 have : xs.findIdx p = xs.length := List.findIdx_eq_length.2 (fun x hx => by
  obtain ⟨j, hj, rfl⟩ := List.getElem_of_mem hx
  exact hn j hj)
 unfold idxFunc; rw [this, if_neg (by omega)]
theorem idxFunc_any {α : Type} (p : α → Bool) (xs : List α) : decide (0 ≤ idxFunc p xs) = xs.any p := by
 unfold idxFunc
 by_cases h : xs.findIdx p < xs.length
 ·rw [if_pos h]
  have := (List.any_eq_true (l := xs) (p := p)).2 (List.findIdx_lt_length.1 h)
  rw [this]; simp
 ·rw [if_neg h]
  have : xs.any p = false := by
   rw [← Bool.not_eq_true, List.any_eq_true]
   exact fun e => h (List.findIdx_lt_length.2 e)
  rw [this]; rfl
def outside (size : Nat) (a : Int) : Bool := decide (a < 0) || decide ((size : Int) ≤ a)
def mayB (n : Node) (size : Nat) : Bool :=
 !(n.args.any (outside size)) &&
 (if n.kind = 1 then decide (n.labels.length = 0) && !n.isOpen && decide (n.name.size = 0) && decide (n.args.length = 0)
  else if n.kind = 2 then decide (n.labels.length = 0) && !n.isOpen && (match arity n.name with | some k => decide ((n.args.length : Int) = k) | none => false)
  else if n.kind = 3 then decide (n.name.size = 0) && decide (n.labels.length = n.args.length) && rising n.labels
  else false)
end Go.Tre
namespace Go.Proofs.YtbafalfmgibnfaaGreatDoor.gr
open Go.RowKit Go.Maps Go.Tre lex

theorem K : Keyed Tryz.prog 9 := string_keyed Tryz.underlying9
theorem inj (a b : ByteArray) (h : Value.string a = Value.string b) : a = b := by injection h
theorem ky (s : ByteArray) (h : s.size ≤ maxLen) : keyOf Tryz.prog 9 (.string s) = some (.string s.data.toList) := by
 simp [keyOf, Tryz.underlying9, mapKey, h]
abbrev ei (n : Int) : Value := .int .i64 n
theorem labels_small {s : ByteArray} {l : List ByteArray} (h : s ∈ l) (hb : (l.map fun s => s.size + 1).sum ≤ 8388608) : s.size ≤ 8388608 := by
 have : ∀ l : List ByteArray, s ∈ l → s.size + 1 ≤ (l.map fun s => s.size + 1).sum := fun l => by
  induction l with
  | nil => intro h; cases h
  | cons x r ih =>
   intro h
   simp only [List.map_cons, List.sum_cons]
   rcases List.mem_cons.1 h with rfl | h
   ·omega
   ·have := ih h; omega
 have := this l h
 omega
end Go.Proofs.YtbafalfmgibnfaaGreatDoor.gr
namespace Go.Tre
theorem less_is : ∀ (x y : List UInt8), Op.bytesLess x y = lessS x y
 | [], [] => rfl
 | [], _ :: _ => rfl
 | _ :: _, [] => rfl
 | a :: x, b :: y => by
  unfold Op.bytesLess lessS
  by_cases h : a = b
  ·subst h
   have : (a.toNat < a.toNat) = False := by simp
   simp [less_is x y]
  ·simp [h, UInt8.lt_iff_toNat_lt]
theorem ba_list (x : List UInt8) : (⟨x.toArray⟩ : ByteArray).toList = x := by rw [ByteArray.toList_eq]
end Go.Tre
namespace Go.Proofs.YtbafalfmgibnfaaGreatDoor.typ
open Go.RowKit Go.Maps Go.Tre lex
set_option maxHeartbeats 2000000 in
theorem indexStrs (a : Option Addr) (cap : Nat) (xs : List ByteArray) (s : ByteArray) (w : World) (hx : StrsAt w a xs) (hlen : xs.length ≤ 8388608) :
  Calls Tryz.prog 82 #[.slice a xs.length cap, .string s] w fun e w' => e = .returned (.int .i64 (idxFunc (fun x => decide (s = x)) xs)) ∧ w = w' := by
 go_enter Tryz.func82, Tryz.ntmps82
 go_wp2_with fail
 go_loop [8] (fun i => ∃ k : Nat, k ≤ xs.length ∧ i = .int .i64 k ∧ (∀ j (hj : j < xs.length), j < k → decide (s = xs[j]) = false)) (fun i => xs.length - (intOf i).toNat)
 case atStart => exact ⟨0, Nat.zero_le _, rfl, fun j _ h => by omega⟩
 case round =>
  obtain ⟨k, hk, rfl, hrel⟩ := hrel
  have HR := Tre.hid hrel
  clear hrel
  by_cases hlt : k < xs.length
  ·obtain ⟨b, off, rfl, hc⟩ := hx.at_ k (.string xs[k]) (by simp [List.getElem?_eq_getElem hlt])
   by_cases hp : s = xs[k]
   ·have HO := Tre.hid (idxFunc_hit (p := fun x => decide (s = x)) hlt (decide_eq_true hp) HR.out)
    have e1 : (s.toList == xs[k].toList) = true := by rw [← hp]; exact beq_self_eq_true _
    have e2 : (s.toList = xs[k].toList) = True := by rw [← hp]; simp
    clear hp
    go_wp2_with fail
    go_ret
    exact ⟨ret_int HO.out.symm, rfl⟩
   ·have hp' : decide (s = xs[k]) = false := decide_eq_false hp
    have HP := Tre.hid hp'
    have e2 : (s.toList = xs[k].toList) = False := by rw [eq_iff_iff, iff_false]; intro e; rw [ByteArray.toList_eq, ByteArray.toList_eq] at e; exact hp (data_inj' e)
    have e1 : (s.toList == xs[k].toList) = false := by rw [beq_eq_false_iff_ne, ne_eq, e2]; exact fun h => h
    clear hp hp'
    go_wp2_with fail
    go_round
    case rel =>
     refine ⟨k + 1, by omega, by go_num, fun j hj hjk => ?_⟩
     by_cases e : j = k
     ·subst e; exact HP.out
     ·exact HR.out j hj (by omega)
    case measure => simp [intOf]; omega
  ·have HO := Tre.hid (idxFunc_miss (p := fun x => decide (s = x)) (xs := xs) (fun j hj => HR.out j hj (by omega)))
   go_wp2_with fail
   go_ret
   exact ⟨ret_int HO.out.symm, rfl⟩
set_option maxHeartbeats 1000000 in
theorem containsStrs (a : Option Addr) (cap : Nat) (xs : List ByteArray) (s : ByteArray) (w : World) (hx : StrsAt w a xs) (hlen : xs.length ≤ 8388608) (r : Bool) (hr : (xs.any fun x => decide (s = x)) = r) :
  Calls Tryz.prog 65 #[.slice a xs.length cap, .string s] w fun e w' => e = .returned (.bool r) ∧ w = w' := by
 have HI := Tre.hid (indexStrs a cap xs s w hx hlen)
 have HA := Tre.hid ((idxFunc_any (fun x => decide (s = x)) xs).trans hr)
 clear hx hr
 go_enter Tryz.func65, Tryz.ntmps65
 go_wp2_with fail
 refine HI.out.mono ?_
 rintro e w' ⟨rfl, rfl⟩
 go_wp2_with fail
 go_ret
 exact ⟨ret_bool HA.out, rfl⟩
set_option maxHeartbeats 2000000 in
theorem binEmpty (c : Nat) (s : ByteArray) (w : World) :
  Calls Tryz.prog 96 #[.slice none 0 c, .string s] w fun e w' => e = .returned (.tuple #[.int .i64 0, .bool false]) ∧ Below w.heap.size w w' := by
 go_enter Tryz.func96, Tryz.ntmps96
 go_wp2_with fail
 go_loop [7, 8] (fun i j => i = .int .i64 0 ∧ j = .int .i64 0) (fun _ _ => 0)
 case atStart => exact ⟨rfl, rfl⟩
 case round =>
  obtain ⟨rfl, rfl⟩ := hrel
  go_wp2_with fail
  go_ret2
  exact ⟨rfl, Below.refl _ _⟩
def noEnd (t : Tok) : Bool := decide (t.kind = 0)
set_option maxHeartbeats 2000000 in
theorem text1 (t : Tok) (w : World) : Calls Tryz.prog 39 #[.agg #[.int .i64 t.kind, .int .i64 t.at_, .int .i64 t.n, .string ⟨t.s.toArray⟩]] w fun e w' => e = .returned (.bool (noEnd t)) ∧ Below w.heap.size w w' := by
 have M := (Mem.nil w).allocR #[.int .i64 t.kind, .int .i64 t.at_, .int .i64 t.n, .string ⟨t.s.toArray⟩] 92
 have HM := Tre.hid M
 by_cases hk : t.kind = 0
 ·have e1 : ((t.kind : Int) == 0) = true := by rw [hk]; rfl
  have H : Hid (noEnd t = true) := decide_eq_true hk
  clear hk M
  go_enter Tryz.func39, Tryz.ntmps39
  go_wp2_with fail
  go_ret
  exact ⟨ret_bool H.out.symm, HM.out.below⟩
 ·have e1 : ((t.kind : Int) == 0) = false := beq_eq_false_iff_ne.2 (by omega)
  have H : Hid (noEnd t = false) := decide_eq_false hk
  clear hk M
  go_enter Tryz.func39, Tryz.ntmps39
  go_wp2_with fail
  go_ret
  exact ⟨ret_bool H.out.symm, HM.out.below⟩
theorem hcfT (args : Array Value) (w : World) : (callFunc 39 args).run Tryz.prog w = .ok (.enter 39 args) w := by kernel_rfl
set_option maxRecDepth 100000 in
set_option maxHeartbeats 2000000 in
theorem indexToks (ad : Option Addr) (cap : Nat) (l : List Tok) (w : World) (hl : ToksAt w ad l) (hlen : l.length ≤ 4194304) :
  Calls Tryz.prog 38 #[.slice ad l.length cap, .func (.func 39) #[] #[]] w fun e w' => e = .returned (.int .i64 (idxFunc noEnd l)) ∧ Below w.heap.size w w' := by
 have HT := Tre.hid text1
 have hcf := hcfT
 go_enter Tryz.func38, Tryz.ntmps38
 go_wp2_with fail
 go_loopw [8] (fun i wr => ∃ k : Nat, k ≤ l.length ∧ i = .int .i64 k ∧ (∀ j (hj : j < l.length), j < k → noEnd l[j] = false) ∧ Below w.heap.size w wr) (fun i _ => l.length - (intOf i).toNat)
 case atStart => exact ⟨0, Nat.zero_le _, rfl, fun j _ h => by omega, Below.refl _ _⟩
 case round =>
  obtain ⟨k, hk, rfl, hrel, hb⟩ := hrel
  have HR := Tre.hid hrel
  clear hrel
  by_cases hlt : k < l.length
  ·obtain ⟨b, off, rfl, a0, a1, a2, a3⟩ := (hl.below hb).tok (List.getElem?_eq_getElem hlt)
   by_cases hp : noEnd l[k] = true
   ·have HO := Tre.hid (idxFunc_hit hlt hp HR.out)
    generalize l[k] = q at *
    go_wp2_with fail
    refine (HT.out q _).mono ?_
    rintro e w' ⟨rfl, hb'⟩
    rw [hp]
    clear hp
    go_wp2_with fail
    go_ret
    exact ⟨ret_int HO.out.symm, hb.trans (hb'.mono hb.size)⟩
   ·have hp' : noEnd l[k] = false := by simpa using hp
    have HP := Tre.hid hp'
    have HR2 : Hid (∀ j (hj : j < l.length), j < k + 1 → noEnd l[j] = false) := fun j hj hjk => by
     by_cases e : j = k
     ·subst e; exact HP.out
     ·exact HR.out j hj (by omega)
    clear hp HR
    generalize l[k] = q at *
    go_wp2_with fail
    refine (HT.out q _).mono ?_
    rintro e w' ⟨rfl, hb'⟩
    rw [hp']
    clear hp'
    go_wp2_with fail
    go_roundw
    case rel => exact ⟨k + 1, by omega, by go_num, HR2.out, hb.trans (hb'.mono hb.size)⟩
    case measure => simp [intOf]; omega
  ·have HO := Tre.hid (idxFunc_miss (p := noEnd) (xs := l) (fun j hj => HR.out j hj (by omega)))
   go_wp2_with fail
   go_ret
   exact ⟨ret_int HO.out.symm, hb⟩
set_option maxHeartbeats 2000000 in
theorem text_yes (ad : Option Addr) (cap : Nat) (l : List Tok) (w : World) (hl : ToksAt w ad l) (hlen : l.length ≤ 4194304) (h0 : 0 < l.length) (hi : idxFunc noEnd l = ((l.length - 1 : Nat) : Int)) :
  Calls Tryz.prog 20 #[.slice ad l.length cap] w fun e w' => e = .returned (.bool true) ∧ Below w.heap.size w w' := by
 have HI := Tre.hid (indexToks ad cap l w hl hlen)
 rw [hi] at HI
 have e1 : (((l.length - 1 : Nat) : Int) == (l.length : Int) - 1) = true := by rw [beq_iff_eq]; omega
 have LEN := Tre.hid h0
 have e2 : (0 : Int) < (l.length : Int) := by omega
 clear hl hi h0
 go_enter Tryz.func20, Tryz.ntmps20
 go_wp2_with fail
 refine HI.out.mono ?_
 rintro e w' ⟨rfl, hb'⟩
 have e3 : decide ((0 : Int) < (l.length : Int)) = true := decide_eq_true e2
 go_wp2_with fail
 go_ret
 refine ⟨ret_bool (decide_eq_true ?_), hb'⟩
 exact LEN.out
end Go.Proofs.YtbafalfmgibnfaaGreatDoor.typ
