/- TypOrders: the walk. What a row that lists the library's variables tells of the world: what the lexer wants. Arguments out of their readings: what all of them share; the wrap for a row with a bound, the world's shape kept. -/
import Derived.Test.YtbafalfmgibnfaaGreatDoorB23
import Derived.Test.YtbafalfmgibnfaaGreatDoorB24
import Derived.Test.YtbafalfmgibnfaaGreatDoorB25
import Derived.Test.YtbafalfmgibnfaaGreatDoorB10
import Derived.Test.YtbafalfmgibnfaaGreatDoorRows
import Derived.Lib.LaidTab
import Derived.LaidSub
import Derived.LaidMore
import Derived.LaidHandle
import Derived.LaidLaws
import Derived.WalkKit
import Derived.Test.YtbafalfmgibnfaaGreatDoorB00
import Derived.Test.YtbafalfmgibnfaaGreatDoorB02
import Derived.JoinedCond
import Derived.ChangeSlices
import Derived.SliceStrings
import Derived.Deep.Slices
import Derived.Shelf.Vars
set_option linter.unusedVariables false
namespace Go.Proofs.YtbafalfmgibnfaaGreatDoor.typ
open Go.RowKit Go.Shelf Go.Maps Go.Tre gr lex tree part
def OneOk (RT : Ty) (w : World) (e : Ending) (w' : World) : Prop := ∃ (O : Nat → Prop) (aw : Option Addr) (cw : Nat) (lw : Option Addr) (dw : Nat), e = .returned (.tuple #[.agg #[.int .i64 RT.kind, .string ⟨RT.s.toArray⟩, .slice aw RT.args.length cw, .slice lw RT.labels.length dw, .bool RT.opn], .bool true]) ∧ Mem w w' [tyR O RT (.agg #[.int .i64 RT.kind, .string ⟨RT.s.toArray⟩, .slice aw RT.args.length cw, .slice lw RT.labels.length dw, .bool RT.opn])]
def OneDeep (w : World) (e : Ending) (w' : World) : Prop := e = .returned (.tuple #[.agg #[.int .i64 0, .string ⟨#[]⟩, .slice none 0 0, .slice none 0 0, .bool false], .bool false]) ∧ Below w.heap.size w w'
theorem verdict_or {t : Ty} (h : 0 ≤ walkT t) : verdictI (walkT t) = 0 ∨ verdictI (walkT t) = 4 := by
 unfold verdictI
 rw [if_neg (by omega)]
 split
 ·exact .inr rfl
 ·exact .inl rfl
set_option maxRecDepth 100000 in
set_option maxHeartbeats 16000000 in
theorem ordersLaw3 (a b : Option Addr) (ca0 cb0 : Nat) (l m : List Prt) (w : World) (hl : PrtsAt w a l) (hm : PrtsAt w b m) (hlen : l.length ≤ 1048576) (hlen2 : m.length ≤ 1048576) (hcap : l.length ≤ ca0) (hcap2 : m.length ≤ cb0) (E : LexEnv w) :
  Calls Tryz.prog 3 #[.slice a l.length ca0, .slice b m.length cb0] w fun e w' => e = .returned (.bool true) ∧ Below w.heap.size w w' := by
 have HX := Tre.hid E.max
 have HPL := Tre.hid hl
 have HPM := Tre.hid hm
 have HA := Tre.hid (alive03 w E)
 have HENV := Tre.hid E
 clear E hl hm
 go_enter Tryz.func3, Tryz.ntmps3
 go_wp2_with fail
 refine HA.out.mono ?_
 rintro e w1 ⟨rfl, b1⟩
 have HB1 := Tre.hid b1
 clear b1 HA
 go_wp2_with fail
 refine (great3_any a ca0 l _ (HPL.out.below HB1.out) hlen).mono ?_
 rintro e w2 ⟨rfl, b2⟩
 have HB2 := Tre.hid (HB1.out.trans (b2.mono HB1.out.size))
 clear b2 HB1
 cases hg : great3B l with
 | true =>
  clear hg
  go_wp2_with fail
  go_ret
  exact ⟨rfl, HB2.out⟩
 | false =>
 have hsm := great3_small hg
 have HWG : Hid ((ofTy l).weight ≤ 17004) := hsm.1
 clear hg hsm
 go_wp2_with fail
 refine (great3_any b cb0 m _ (HPM.out.below HB2.out) hlen2).mono ?_
 rintro e w2' ⟨rfl, b2⟩
 have HB3 := Tre.hid (HB2.out.trans (b2.mono HB2.out.size))
 clear b2 HB2
 cases hg : great3B m with
 | true =>
  clear hg
  go_wp2_with fail
  go_ret
  exact ⟨rfl, HB3.out⟩
 | false =>
 have hsm := great3_small hg
 have HWM : Hid ((ofTy m).weight ≤ 17004) := hsm.1
 clear hg hsm
 have HOF := Tre.hid (of_any w (l.length + 1) l a ca0 w2' HB3.out (Nat.lt_succ_self _) hlen hcap HPL.out)
 go_wp2_with fail
 refine HOF.out.mono ?_
 rintro e w3 ⟨O, aa, al, ca, cl, a', c', rfl, _, _, m3⟩
 have hty : (ofP (l.length + 1) l).1 = ofTy l := rfl
 rw [hty] at m3 ⊢
 obtain ⟨t, ht⟩ : ∃ t, ofTy l = t := ⟨_, rfl⟩
 rw [ht] at m3 HWG ⊢
 have M3 := (Mem.of_below HB3.out).call m3
 have M4 := M3.allocR #[.int .i64 t.kind, .string ⟨t.s.toArray⟩, .slice aa t.args.length ca, .slice al t.labels.length cl, .bool t.opn] 28
 obtain ⟨bT, hbT⟩ : ∃ bT, w3.heap.size = bT := ⟨_, rfl⟩
 rw [hbT] at M4
 have HM4 := Tre.hid M4
 clear HOF hty ht m3 M3 M4 HB3
 generalize (ofP (l.length + 1) l).2 = rest at *
 have HOF := Tre.hid (of_any w (m.length + 1) m b cb0 _ HM4.out.below (Nat.lt_succ_self _) hlen2 hcap2 HPM.out)
 go_wp2_with fail
 try rw [hbT]
 clear hbT
 refine HOF.out.mono ?_
 rintro e w5 ⟨O2, ab, bl, cb, dl, b', c2', rfl, _, _, m5⟩
 have hty : (ofP (m.length + 1) m).1 = ofTy m := rfl
 rw [hty] at m5 ⊢
 obtain ⟨u, hu⟩ : ∃ u, ofTy m = u := ⟨_, rfl⟩
 rw [hu] at m5 HWM ⊢
 have M5 := HM4.out.call m5
 have M6 := M5.allocR #[.int .i64 u.kind, .string ⟨u.s.toArray⟩, .slice ab u.args.length cb, .slice bl u.labels.length dl, .bool u.opn] 28
 obtain ⟨bU, hbU⟩ : ∃ bU, w5.heap.size = bU := ⟨_, rfl⟩
 rw [hbU] at M6
 have HM6 : Hid (Mem w (w5.alloc (.cells #[.int .i64 u.kind, .string ⟨u.s.toArray⟩, .slice ab u.args.length cb, .slice bl u.labels.length dl, .bool u.opn] 28)) [cellsR bU 28 #[.int .i64 u.kind, .string ⟨u.s.toArray⟩, .slice ab u.args.length cb, .slice bl u.labels.length dl, .bool u.opn], tyR O2 u (.agg #[.int .i64 u.kind, .string ⟨u.s.toArray⟩, .slice ab u.args.length cb, .slice bl u.labels.length dl, .bool u.opn]), cellsR bT 28 #[.int .i64 t.kind, .string ⟨t.s.toArray⟩, .slice aa t.args.length ca, .slice al t.labels.length cl, .bool t.opn], tyR O t (.agg #[.int .i64 t.kind, .string ⟨t.s.toArray⟩, .slice aa t.args.length ca, .slice al t.labels.length cl, .bool t.opn])]) := M6
 have x0 := HM6.out.cell 2 rfl 0 rfl
 have x1 := HM6.out.cell 2 rfl 1 rfl
 have x2 := HM6.out.cell 2 rfl 2 rfl
 have x3 := HM6.out.cell 2 rfl 3 rfl
 have x4 := HM6.out.cell 2 rfl 4 rfl
 clear HOF hty hu m5 M5 M6 HM4
 generalize (ofP (m.length + 1) m).2 = rest2 at *
 go_wp2_with fail
 try rw [hbU]
 clear hbU
 generalize hw6 : w5.alloc (.cells #[.int .i64 u.kind, .string ⟨u.s.toArray⟩, .slice ab u.args.length cb, .slice bl u.labels.length dl, .bool u.opn] 28) = w6 at *
 clear hw6
 have HPT := Tre.hid (Put_any t _ w6 (HM6.out.at_ 3 rfl).1.rd (by have := HWG.out; omega) (HX.out.below HM6.out.below))
 obtain ⟨vd, hvd⟩ : ∃ vd, verdictI (walkT t) = vd := ⟨_, rfl⟩
 rw [hvd] at HPT
 obtain ⟨pa, hpa⟩ : ∃ pa, (if vd = 0 then putS t else []) = pa := ⟨_, rfl⟩
 rw [hpa] at HPT
 refine HPT.out.mono ?_
 rintro e w7 ⟨rfl, b7⟩
 have HVD := Tre.hid hvd
 have HPA := Tre.hid hpa
 have HM7 := Tre.hid (HM6.out.quiet b7)
 clear b7 HPT HM6 hvd hpa x0 x1 x2 x3 x4
 have x0 := HM7.out.cell 0 rfl 0 rfl
 have x1 := HM7.out.cell 0 rfl 1 rfl
 have x2 := HM7.out.cell 0 rfl 2 rfl
 have x3 := HM7.out.cell 0 rfl 3 rfl
 have x4 := HM7.out.cell 0 rfl 4 rfl
 go_wp2_with fail
 have HPU := Tre.hid (Put_any u _ w7 (HM7.out.at_ 1 rfl).1.rd (by have := HWM.out; omega) (HX.out.below HM7.out.below))
 obtain ⟨ve, hve⟩ : ∃ ve, verdictI (walkT u) = ve := ⟨_, rfl⟩
 rw [hve] at HPU
 obtain ⟨pb, hpb⟩ : ∃ pb, (if ve = 0 then putS u else []) = pb := ⟨_, rfl⟩
 rw [hpb] at HPU
 refine HPU.out.mono ?_
 rintro e w8 ⟨rfl, b8⟩
 have HVE := Tre.hid hve
 have HPB := Tre.hid hpb
 have HM8 := Tre.hid (HM7.out.quiet b8)
 clear b8 HPU HM7 hve hpb x0 x1 x2 x3 x4
 by_cases hv0 : vd = 0
 rotate_left
 ·have e0 : (vd == 0) = false := by simpa using hv0
  have HB := Tre.hid HM8.out.below
  clear HM8
  go_wp2_with fail
  go_ret
  exact ⟨rfl, HB.out⟩
 subst hv0
 by_cases hv1 : ve = 0
 rotate_left
 ·have e0 : (ve == 0) = false := by simpa using hv1
  have HB := Tre.hid HM8.out.below
  clear HM8
  go_wp2_with fail
  go_ret
  exact ⟨rfl, HB.out⟩
 subst hv1
 have hlp := HPA.out
 rw [if_pos rfl] at hlp
 have hlq := HPB.out
 rw [if_pos rfl] at hlq
 have HTP := Tre.hid hlp
 have HUP := Tre.hid hlq
 have t0 := fine_walk HVD.out
 have u0 := fine_walk HVE.out
 have HFT := Tre.hid (fine_of _ t (Nat.le_refl _) t0)
 have HFU := Tre.hid (fine_of _ u (Nat.le_refl _) u0)
 have HT0 := Tre.hid t0
 have HU0 := Tre.hid u0
 have hla : pa.length ≤ 340080 := by
  have h := spT_len HFT.out 0 false
  have h2 := HWG.out
  rw [← hlp]
  exact Nat.le_trans h (by omega)
 have hlb : pb.length ≤ 340080 := by
  have h := spT_len HFU.out 0 false
  have h2 := HWM.out
  rw [← hlq]
  exact Nat.le_trans h (by omega)
 have HVT := Tre.hid HVD.out
 clear hlp hlq t0 u0 HPA HPB HVD HVE
 have hwr : IntKind.i64.wrap ((pa.length : Int) + (pb.length : Int)) = (pa.length : Int) + (pb.length : Int) := IntWalk.i64_in _ (by omega)
 by_cases hbig : 10000 < pa.length + pb.length
 ·have hb2 : (10000 : Int) < (pa.length : Int) + (pb.length : Int) := by omega
  have HB := Tre.hid HM8.out.below
  clear hbig HM8
  go_wp2_with fail
  go_ret
  exact ⟨rfl, HB.out⟩
 have hb2 : ¬ ((10000 : Int) < (pa.length : Int) + (pb.length : Int)) := by omega
 clear hb2 hwr
 have HTX : Hid ((((((⟨#[60, 32, 107, 32, 58, 32, 40]⟩ : ByteArray) ++ (⟨pa.toArray⟩ : ByteArray)) ++ (⟨#[41, 32, 59, 32, 106, 32, 58, 32, 40]⟩ : ByteArray)) ++ (⟨pb.toArray⟩ : ByteArray)) ++ (⟨#[41, 32, 59, 32, 46, 46, 32, 62]⟩ : ByteArray)).data.toList = xText t u) := by
  show _ = _
  unfold xText
  rw [HTP.out, HUP.out]
  simp [ByteArray.data_append]
 have hsX : (((((⟨#[60, 32, 107, 32, 58, 32, 40]⟩ : ByteArray) ++ (⟨pa.toArray⟩ : ByteArray)) ++ (⟨#[41, 32, 59, 32, 106, 32, 58, 32, 40]⟩ : ByteArray)) ++ (⟨pb.toArray⟩ : ByteArray)) ++ (⟨#[41, 32, 59, 32, 46, 46, 32, 62]⟩ : ByteArray)).size ≤ 65536 := by
  have h : (((((⟨#[60, 32, 107, 32, 58, 32, 40]⟩ : ByteArray) ++ (⟨pa.toArray⟩ : ByteArray)) ++ (⟨#[41, 32, 59, 32, 106, 32, 58, 32, 40]⟩ : ByteArray)) ++ (⟨pb.toArray⟩ : ByteArray)) ++ (⟨#[41, 32, 59, 32, 46, 46, 32, 62]⟩ : ByteArray)).size = (xText t u).length := by rw [← HTX.out]; rfl
  rw [h]
  unfold xText
  rw [HTP.out, HUP.out]
  simp only [List.length_append, List.length_cons, List.length_nil]
  omega
 have HTY : Hid ((((((⟨#[60, 32, 106, 32, 58, 32, 40, 40]⟩ : ByteArray) ++ (⟨pb.toArray⟩ : ByteArray)) ++ (⟨#[41, 41, 32, 59, 32, 107, 32, 58, 32, 40]⟩ : ByteArray)) ++ (⟨pa.toArray⟩ : ByteArray)) ++ (⟨#[41, 32, 59, 32, 46, 46, 32, 62]⟩ : ByteArray)).data.toList = yText t u) := by
  show _ = _
  unfold yText
  rw [HTP.out, HUP.out]
  simp [ByteArray.data_append]
 have hsY : (((((⟨#[60, 32, 106, 32, 58, 32, 40, 40]⟩ : ByteArray) ++ (⟨pb.toArray⟩ : ByteArray)) ++ (⟨#[41, 41, 32, 59, 32, 107, 32, 58, 32, 40]⟩ : ByteArray)) ++ (⟨pa.toArray⟩ : ByteArray)) ++ (⟨#[41, 32, 59, 32, 46, 46, 32, 62]⟩ : ByteArray)).size ≤ 65536 := by
  have h : (((((⟨#[60, 32, 106, 32, 58, 32, 40, 40]⟩ : ByteArray) ++ (⟨pb.toArray⟩ : ByteArray)) ++ (⟨#[41, 41, 32, 59, 32, 107, 32, 58, 32, 40]⟩ : ByteArray)) ++ (⟨pa.toArray⟩ : ByteArray)) ++ (⟨#[41, 32, 59, 32, 46, 46, 32, 62]⟩ : ByteArray)).size = (yText t u).length := by rw [← HTY.out]; rfl
  rw [h]
  unfold yText
  rw [HTP.out, HUP.out]
  simp only [List.length_append, List.length_cons, List.length_nil]
  omega
 have HTZ : Hid ((((⟨#[40, 40]⟩ : ByteArray) ++ (⟨pa.toArray⟩ : ByteArray)) ++ (⟨#[41, 41]⟩ : ByteArray)).data.toList = zText t) := by
  show _ = _
  unfold zText
  rw [HTP.out]
  simp [ByteArray.data_append]
 have hsZ : (((⟨#[40, 40]⟩ : ByteArray) ++ (⟨pa.toArray⟩ : ByteArray)) ++ (⟨#[41, 41]⟩ : ByteArray)).size ≤ 65536 := by
  have h : (((⟨#[40, 40]⟩ : ByteArray) ++ (⟨pa.toArray⟩ : ByteArray)) ++ (⟨#[41, 41]⟩ : ByteArray)).size = (zText t).length := by rw [← HTZ.out]; rfl
  rw [h]
  unfold zText
  rw [HTP.out]
  simp only [List.length_append, List.length_cons, List.length_nil]
  omega
 have hc0 : ¬ (9223372036854775807 < 7 + pa.length) := by omega
 have hc1 : ¬ (9223372036854775807 < 7 + pa.length + 9) := by omega
 have hc2 : ¬ (9223372036854775807 < 7 + pa.length + 9 + pb.length) := by omega
 have hc3 : ¬ (9223372036854775807 < 7 + pa.length + 9 + pb.length + 8) := by omega
 have hc4 : ¬ (9223372036854775807 < 8 + pb.length) := by omega
 have hc5 : ¬ (9223372036854775807 < 8 + pb.length + 10) := by omega
 have hc6 : ¬ (9223372036854775807 < 8 + pb.length + 10 + pa.length) := by omega
 have hc7 : ¬ (9223372036854775807 < 8 + pb.length + 10 + pa.length + 8) := by omega
 have hc8 : ¬ (9223372036854775807 < 2 + pa.length) := by omega
 have hc9 : ¬ (9223372036854775807 < 2 + pa.length + 2) := by omega
 have hgx := obj_goods (x_ok HFT.out HFU.out)
 have hgy := obj_goods (y_ok HFT.out HFU.out)
 have hgz := z_goods HFT.out
 have hpx := prs_text (n := 3) (.inr (.inr rfl)) (obj_prs (x_ok HFT.out HFU.out) (x_ins t u))
 have hpy := prs_text (n := 3) (.inr (.inr rfl)) (obj_prs (y_ok HFT.out HFU.out) (y_ins t u))
 have hpz := prs_text (n := 3) (.inr (.inr rfl)) (br2_prs HFT.out)
 obtain ⟨RT, hRT⟩ : ∃ x, twoTy t u = x := ⟨_, rfl⟩
 have hwk := two_walk HT0.out HU0.out
 have hww := two_weight t u
 have hwr : RT.weight ≤ 4194304 := by rw [← hRT]; have h1 := HWG.out; have h2 := HWM.out; omega
 have hwt : t.weight ≤ 4194304 := by have h1 := HWG.out; omega
 have hrl : RT.labels.length = 2 ∧ RT.opn = true := by rw [← hRT]; exact ⟨rfl, rfl⟩
 have hpx' : ∀ N, ∃ K, ∀ k, K ≤ k → pLev (toksOf N (objSp (xFlds t u) false)) k 0 0 = some (RT, (objSp (xFlds t u) false).length) := by rw [← hRT]; exact hpx
 have hpy' : ∀ N, ∃ K, ∀ k, K ≤ k → pLev (toksOf N (objSp (yFlds t u) false)) k 0 0 = some (RT, (objSp (yFlds t u) false).length) := by rw [← hRT]; exact hpy
 rw [hRT] at hwk
 have hvt := verdict_or HT0.out
 have hSX : spell (objSp (xFlds t u) false) = (((((⟨#[60, 32, 107, 32, 58, 32, 40]⟩ : ByteArray) ++ (⟨pa.toArray⟩ : ByteArray)) ++ (⟨#[41, 32, 59, 32, 106, 32, 58, 32, 40]⟩ : ByteArray)) ++ (⟨pb.toArray⟩ : ByteArray)) ++ (⟨#[41, 32, 59, 32, 46, 46, 32, 62]⟩ : ByteArray)).data.toList := by rw [HTX.out, x_spell]
 have hSY : spell (objSp (yFlds t u) false) = (((((⟨#[60, 32, 106, 32, 58, 32, 40, 40]⟩ : ByteArray) ++ (⟨pb.toArray⟩ : ByteArray)) ++ (⟨#[41, 41, 32, 59, 32, 107, 32, 58, 32, 40]⟩ : ByteArray)) ++ (⟨pa.toArray⟩ : ByteArray)) ++ (⟨#[41, 32, 59, 32, 46, 46, 32, 62]⟩ : ByteArray)).data.toList := by rw [HTY.out, y_spell]
 have hSZ : spell (br2 t false) = (((⟨#[40, 40]⟩ : ByteArray) ++ (⟨pa.toArray⟩ : ByteArray)) ++ (⟨#[41, 41]⟩ : ByteArray)).data.toList := by rw [HTZ.out, z_spell]
 have ONEX : Hid (∀ W, Below w.heap.size w W → (verdictI (walkT RT) = 0 → Calls Tryz.prog 10 #[.string (((((⟨#[60, 32, 107, 32, 58, 32, 40]⟩ : ByteArray) ++ (⟨pa.toArray⟩ : ByteArray)) ++ (⟨#[41, 32, 59, 32, 106, 32, 58, 32, 40]⟩ : ByteArray)) ++ (⟨pb.toArray⟩ : ByteArray)) ++ (⟨#[41, 32, 59, 32, 46, 46, 32, 62]⟩ : ByteArray))] W (OneOk RT W)) ∧ (verdictI (walkT RT) = 4 → Calls Tryz.prog 10 #[.string (((((⟨#[60, 32, 107, 32, 58, 32, 40]⟩ : ByteArray) ++ (⟨pa.toArray⟩ : ByteArray)) ++ (⟨#[41, 32, 59, 32, 106, 32, 58, 32, 40]⟩ : ByteArray)) ++ (⟨pb.toArray⟩ : ByteArray)) ++ (⟨#[41, 32, 59, 32, 46, 46, 32, 62]⟩ : ByteArray))] W (OneDeep W))) := fun W hW => ⟨fun hv => one_ok (((((⟨#[60, 32, 107, 32, 58, 32, 40]⟩ : ByteArray) ++ (⟨pa.toArray⟩ : ByteArray)) ++ (⟨#[41, 32, 59, 32, 106, 32, 58, 32, 40]⟩ : ByteArray)) ++ (⟨pb.toArray⟩ : ByteArray)) ++ (⟨#[41, 32, 59, 32, 46, 46, 32, 62]⟩ : ByteArray)) _ RT W (HENV.out.below hW) hgx hSX hsX hpx' hv hwr, fun hv => one_deep (((((⟨#[60, 32, 107, 32, 58, 32, 40]⟩ : ByteArray) ++ (⟨pa.toArray⟩ : ByteArray)) ++ (⟨#[41, 32, 59, 32, 106, 32, 58, 32, 40]⟩ : ByteArray)) ++ (⟨pb.toArray⟩ : ByteArray)) ++ (⟨#[41, 32, 59, 32, 46, 46, 32, 62]⟩ : ByteArray)) _ RT W (HENV.out.below hW) hgx hSX hsX hpx' hv hwr⟩
 have ONEY : Hid (∀ W, Below w.heap.size w W → (verdictI (walkT RT) = 0 → Calls Tryz.prog 10 #[.string (((((⟨#[60, 32, 106, 32, 58, 32, 40, 40]⟩ : ByteArray) ++ (⟨pb.toArray⟩ : ByteArray)) ++ (⟨#[41, 41, 32, 59, 32, 107, 32, 58, 32, 40]⟩ : ByteArray)) ++ (⟨pa.toArray⟩ : ByteArray)) ++ (⟨#[41, 32, 59, 32, 46, 46, 32, 62]⟩ : ByteArray))] W (OneOk RT W)) ∧ (verdictI (walkT RT) = 4 → Calls Tryz.prog 10 #[.string (((((⟨#[60, 32, 106, 32, 58, 32, 40, 40]⟩ : ByteArray) ++ (⟨pb.toArray⟩ : ByteArray)) ++ (⟨#[41, 41, 32, 59, 32, 107, 32, 58, 32, 40]⟩ : ByteArray)) ++ (⟨pa.toArray⟩ : ByteArray)) ++ (⟨#[41, 32, 59, 32, 46, 46, 32, 62]⟩ : ByteArray))] W (OneDeep W))) := fun W hW => ⟨fun hv => one_ok (((((⟨#[60, 32, 106, 32, 58, 32, 40, 40]⟩ : ByteArray) ++ (⟨pb.toArray⟩ : ByteArray)) ++ (⟨#[41, 41, 32, 59, 32, 107, 32, 58, 32, 40]⟩ : ByteArray)) ++ (⟨pa.toArray⟩ : ByteArray)) ++ (⟨#[41, 32, 59, 32, 46, 46, 32, 62]⟩ : ByteArray)) _ RT W (HENV.out.below hW) hgy hSY hsY hpy' hv hwr, fun hv => one_deep (((((⟨#[60, 32, 106, 32, 58, 32, 40, 40]⟩ : ByteArray) ++ (⟨pb.toArray⟩ : ByteArray)) ++ (⟨#[41, 41, 32, 59, 32, 107, 32, 58, 32, 40]⟩ : ByteArray)) ++ (⟨pa.toArray⟩ : ByteArray)) ++ (⟨#[41, 32, 59, 32, 46, 46, 32, 62]⟩ : ByteArray)) _ RT W (HENV.out.below hW) hgy hSY hsY hpy' hv hwr⟩
 have ONEZ : Hid (∀ W, Below w.heap.size w W → Calls Tryz.prog 10 #[.string (((⟨#[40, 40]⟩ : ByteArray) ++ (⟨pa.toArray⟩ : ByteArray)) ++ (⟨#[41, 41]⟩ : ByteArray))] W (OneOk t W)) := fun W hW => one_ok (((⟨#[40, 40]⟩ : ByteArray) ++ (⟨pa.toArray⟩ : ByteArray)) ++ (⟨#[41, 41]⟩ : ByteArray)) _ t W (HENV.out.below hW) hgz hSZ hsZ hpz HVT.out hwt
 have HWT := Tre.hid hwt
 have HWR := Tre.hid hwr
 have HRL := Tre.hid hrl
 have hvr := verdict_or hwk
 clear hgx hgy hgz hpx hpy hpz hpx' hpy' hRT hwk hww hwr hwt hrl hSX hSY hSZ hsX hsY hsZ HTX HTY HTZ hvt
 rcases hvr with hv | hv
 ·have HOX := Tre.hid ((ONEX.out _ HM8.out.below).1 hv)
  have HVR := Tre.hid hv
  clear hv ONEX
  go_wp2_with fail
  refine HOX.out.mono ?_
  rintro e w21 ⟨OX, ax, cx, lx, dx, rfl, m21⟩
  have M21 := (HM8.out.call m21).allocR #[.int .i64 RT.kind, .string ⟨RT.s.toArray⟩, .slice ax RT.args.length cx, .slice lx RT.labels.length dx, .bool RT.opn] 28
  obtain ⟨bX, hbX⟩ : ∃ bX, w21.heap.size = bX := ⟨_, rfl⟩
  rw [hbX] at M21
  have HM21 := Tre.hid M21
  have HOY := Tre.hid ((ONEY.out _ M21.below).1 HVR.out)
  clear m21 M21 HOX ONEY HM8
  go_wp2_with fail
  try rw [hbX]
  clear hbX
  generalize hw22 : w21.alloc (.cells #[.int .i64 RT.kind, .string ⟨RT.s.toArray⟩, .slice ax RT.args.length cx, .slice lx RT.labels.length dx, .bool RT.opn] 28) = w22 at *
  clear hw22
  refine HOY.out.mono ?_
  rintro e w23 ⟨OY, ay, cy, ly, dy, rfl, m23⟩
  have M23 := (HM21.out.call m23).allocR #[.int .i64 RT.kind, .string ⟨RT.s.toArray⟩, .slice ay RT.args.length cy, .slice ly RT.labels.length dy, .bool RT.opn] 28
  obtain ⟨bY, hbY⟩ : ∃ bY, w23.heap.size = bY := ⟨_, rfl⟩
  rw [hbY] at M23
  have HM23 := Tre.hid M23
  have HOZ := Tre.hid (ONEZ.out _ M23.below)
  clear m23 M23 HOY ONEZ HM21
  go_wp2_with fail
  try rw [hbY]
  clear hbY
  generalize hw24 : w23.alloc (.cells #[.int .i64 RT.kind, .string ⟨RT.s.toArray⟩, .slice ay RT.args.length cy, .slice ly RT.labels.length dy, .bool RT.opn] 28) = w24 at *
  clear hw24
  refine HOZ.out.mono ?_
  rintro e w25 ⟨OZ, az, cz, lz, dz, rfl, m25⟩
  have M25 := (HM23.out.call m25).allocR #[.int .i64 t.kind, .string ⟨t.s.toArray⟩, .slice az t.args.length cz, .slice lz t.labels.length dz, .bool t.opn] 28
  obtain ⟨bZ, hbZ⟩ : ∃ bZ, w25.heap.size = bZ := ⟨_, rfl⟩
  rw [hbZ] at M25
  have HM25 : Hid (Mem w (w25.alloc (.cells #[.int .i64 t.kind, .string ⟨t.s.toArray⟩, .slice az t.args.length cz, .slice lz t.labels.length dz, .bool t.opn] 28)) [cellsR bZ 28 #[.int .i64 t.kind, .string ⟨t.s.toArray⟩, .slice az t.args.length cz, .slice lz t.labels.length dz, .bool t.opn], tyR OZ t (.agg #[.int .i64 t.kind, .string ⟨t.s.toArray⟩, .slice az t.args.length cz, .slice lz t.labels.length dz, .bool t.opn]), cellsR bY 28 #[.int .i64 RT.kind, .string ⟨RT.s.toArray⟩, .slice ay RT.args.length cy, .slice ly RT.labels.length dy, .bool RT.opn], tyR OY RT (.agg #[.int .i64 RT.kind, .string ⟨RT.s.toArray⟩, .slice ay RT.args.length cy, .slice ly RT.labels.length dy, .bool RT.opn]), cellsR bX 28 #[.int .i64 RT.kind, .string ⟨RT.s.toArray⟩, .slice ax RT.args.length cx, .slice lx RT.labels.length dx, .bool RT.opn], tyR OX RT (.agg #[.int .i64 RT.kind, .string ⟨RT.s.toArray⟩, .slice ax RT.args.length cx, .slice lx RT.labels.length dx, .bool RT.opn]), cellsR bU 28 #[.int .i64 u.kind, .string ⟨u.s.toArray⟩, .slice ab u.args.length cb, .slice bl u.labels.length dl, .bool u.opn], tyR O2 u (.agg #[.int .i64 u.kind, .string ⟨u.s.toArray⟩, .slice ab u.args.length cb, .slice bl u.labels.length dl, .bool u.opn]), cellsR bT 28 #[.int .i64 t.kind, .string ⟨t.s.toArray⟩, .slice aa t.args.length ca, .slice al t.labels.length cl, .bool t.opn], tyR O t (.agg #[.int .i64 t.kind, .string ⟨t.s.toArray⟩, .slice aa t.args.length ca, .slice al t.labels.length cl, .bool t.opn])]) := M25
  have p0 := M25.cell 6 rfl 0 rfl
  have p1 := M25.cell 6 rfl 1 rfl
  have p2 := M25.cell 6 rfl 2 rfl
  have p3 := M25.cell 6 rfl 3 rfl
  have p4 := M25.cell 6 rfl 4 rfl
  have q0 := M25.cell 8 rfl 0 rfl
  have q1 := M25.cell 8 rfl 1 rfl
  have q2 := M25.cell 8 rfl 2 rfl
  have q3 := M25.cell 8 rfl 3 rfl
  have q4 := M25.cell 8 rfl 4 rfl
  have HS1 := Tre.hid (same_any 4194304 t u _ _ _ HWT.out (by omega) (M25.at_ 9 rfl).1.rd (M25.at_ 7 rfl).1.rd)
  clear m25 M25 HOZ HM23
  go_wp2_with fail
  try rw [hbZ]
  clear hbZ
  generalize hw26 : w25.alloc (.cells #[.int .i64 t.kind, .string ⟨t.s.toArray⟩, .slice az t.args.length cz, .slice lz t.labels.length dz, .bool t.opn] 28) = w26 at *
  clear hw26
  refine HS1.out.mono ?_
  rintro e w27 ⟨r1, rfl, _, b27⟩
  have HM27 := Tre.hid (HM25.out.quiet b27)
  clear b27 HS1 HM25 p0 p1 p2 p3 p4 q0 q1 q2 q3 q4
  have p0 := HM27.out.cell 4 rfl 0 rfl
  have p1 := HM27.out.cell 4 rfl 1 rfl
  have p2 := HM27.out.cell 4 rfl 2 rfl
  have p3 := HM27.out.cell 4 rfl 3 rfl
  have p4 := HM27.out.cell 4 rfl 4 rfl
  have q0 := HM27.out.cell 2 rfl 0 rfl
  have q1 := HM27.out.cell 2 rfl 1 rfl
  have q2 := HM27.out.cell 2 rfl 2 rfl
  have q3 := HM27.out.cell 2 rfl 3 rfl
  have q4 := HM27.out.cell 2 rfl 4 rfl
  have HS2 := Tre.hid (same_any 4194304 RT RT _ _ _ HWR.out (by omega) (HM27.out.at_ 5 rfl).1.rd (HM27.out.at_ 3 rfl).1.rd)
  have hr1 : (r1 && false) = false := by cases r1 <;> rfl
  clear hr1
  cases r1 with
  | true =>
   go_wp2_with fail
   refine HS2.out.mono ?_
   rintro e w28 ⟨r2, rfl, hr2, b28⟩
   obtain rfl : r2 = true := hr2 rfl
   have HM28 := Tre.hid (HM27.out.quiet b28)
   clear b28 hr2 HS2 HM27 p0 p1 p2 p3 p4 q0 q1 q2 q3 q4
   have p0 := HM28.out.cell 4 rfl 0 rfl
   have p1 := HM28.out.cell 4 rfl 1 rfl
   have p2 := HM28.out.cell 4 rfl 2 rfl
   have p3 := HM28.out.cell 4 rfl 3 rfl
   have p4 := HM28.out.cell 4 rfl 4 rfl
   have q0 := HM28.out.cell 0 rfl 0 rfl
   have q1 := HM28.out.cell 0 rfl 1 rfl
   have q2 := HM28.out.cell 0 rfl 2 rfl
   have q3 := HM28.out.cell 0 rfl 3 rfl
   have q4 := HM28.out.cell 0 rfl 4 rfl
   have r0 := HM28.out.cell 8 rfl 0 rfl
   have r1 := HM28.out.cell 8 rfl 1 rfl
   have r2 := HM28.out.cell 8 rfl 2 rfl
   have r3 := HM28.out.cell 8 rfl 3 rfl
   have r4 := HM28.out.cell 8 rfl 4 rfl
   rw [HRL.out.1] at p3
   rw [HRL.out.2] at p4
   have HS3 := Tre.hid (same_any 4194304 t t _ _ _ HWT.out (by omega) (HM28.out.at_ 1 rfl).1.rd (HM28.out.at_ 9 rfl).1.rd)
   go_wp2_with fail
   refine HS3.out.mono ?_
   rintro e w29 ⟨r3, rfl, hr3, b29⟩
   obtain rfl : r3 = true := hr3 rfl
   have HB := Tre.hid (HM28.out.quiet b29).below
   clear b29 hr3 HS3 HM28 p0 p1 p2 p3 p4 q0 q1 q2 q3 q4 r0 r1 r2 r3 r4
   go_wp2_with fail
   go_ret
   exact ⟨rfl, HB.out⟩
  | false =>
   go_wp2_with fail
   refine HS2.out.mono ?_
   rintro e w28 ⟨r2, rfl, hr2, b28⟩
   obtain rfl : r2 = true := hr2 rfl
   have HM28 := Tre.hid (HM27.out.quiet b28)
   clear b28 hr2 HS2 HM27 p0 p1 p2 p3 p4 q0 q1 q2 q3 q4
   have p0 := HM28.out.cell 4 rfl 0 rfl
   have p1 := HM28.out.cell 4 rfl 1 rfl
   have p2 := HM28.out.cell 4 rfl 2 rfl
   have p3 := HM28.out.cell 4 rfl 3 rfl
   have p4 := HM28.out.cell 4 rfl 4 rfl
   have q0 := HM28.out.cell 0 rfl 0 rfl
   have q1 := HM28.out.cell 0 rfl 1 rfl
   have q2 := HM28.out.cell 0 rfl 2 rfl
   have q3 := HM28.out.cell 0 rfl 3 rfl
   have q4 := HM28.out.cell 0 rfl 4 rfl
   have r0 := HM28.out.cell 8 rfl 0 rfl
   have r1 := HM28.out.cell 8 rfl 1 rfl
   have r2 := HM28.out.cell 8 rfl 2 rfl
   have r3 := HM28.out.cell 8 rfl 3 rfl
   have r4 := HM28.out.cell 8 rfl 4 rfl
   rw [HRL.out.1] at p3
   rw [HRL.out.2] at p4
   have HS3 := Tre.hid (same_any 4194304 t t _ _ _ HWT.out (by omega) (HM28.out.at_ 1 rfl).1.rd (HM28.out.at_ 9 rfl).1.rd)
   go_wp2_with fail
   refine HS3.out.mono ?_
   rintro e w29 ⟨r3, rfl, hr3, b29⟩
   obtain rfl : r3 = true := hr3 rfl
   have HB := Tre.hid (HM28.out.quiet b29).below
   clear b29 hr3 HS3 HM28 p0 p1 p2 p3 p4 q0 q1 q2 q3 q4 r0 r1 r2 r3 r4
   go_wp2_with fail
   go_ret
   exact ⟨rfl, HB.out⟩
 ·have HOX := Tre.hid ((ONEX.out _ HM8.out.below).2 hv)
  have HVR := Tre.hid hv
  clear hv ONEX
  go_wp2_with fail
  refine HOX.out.mono ?_
  rintro e w21 ⟨rfl, b21⟩
  have M21 := (HM8.out.quiet b21).allocR #[.int .i64 0, .string ⟨#[]⟩, .slice none 0 0, .slice none 0 0, .bool false] 28
  obtain ⟨bX, hbX⟩ : ∃ bX, w21.heap.size = bX := ⟨_, rfl⟩
  rw [hbX] at M21
  have HM21 := Tre.hid M21
  have HOY := Tre.hid ((ONEY.out _ M21.below).2 HVR.out)
  clear b21 M21 HOX ONEY HM8
  go_wp2_with fail
  try rw [hbX]
  clear hbX
  generalize hw22 : w21.alloc (.cells #[.int .i64 0, .string ⟨#[]⟩, .slice none 0 0, .slice none 0 0, .bool false] 28) = w22 at *
  clear hw22
  refine HOY.out.mono ?_
  rintro e w23 ⟨rfl, b23⟩
  have M23 := (HM21.out.quiet b23).allocR #[.int .i64 0, .string ⟨#[]⟩, .slice none 0 0, .slice none 0 0, .bool false] 28
  obtain ⟨bY, hbY⟩ : ∃ bY, w23.heap.size = bY := ⟨_, rfl⟩
  rw [hbY] at M23
  have HM23 := Tre.hid M23
  have HOZ := Tre.hid (ONEZ.out _ M23.below)
  clear b23 M23 HOY ONEZ HM21
  go_wp2_with fail
  try rw [hbY]
  clear hbY
  generalize hw24 : w23.alloc (.cells #[.int .i64 0, .string ⟨#[]⟩, .slice none 0 0, .slice none 0 0, .bool false] 28) = w24 at *
  clear hw24
  refine HOZ.out.mono ?_
  rintro e w25 ⟨OZ, az, cz, lz, dz, rfl, m25⟩
  have M25 := (HM23.out.call m25).allocR #[.int .i64 t.kind, .string ⟨t.s.toArray⟩, .slice az t.args.length cz, .slice lz t.labels.length dz, .bool t.opn] 28
  obtain ⟨bZ, hbZ⟩ : ∃ bZ, w25.heap.size = bZ := ⟨_, rfl⟩
  rw [hbZ] at M25
  have HM25 : Hid (Mem w (w25.alloc (.cells #[.int .i64 t.kind, .string ⟨t.s.toArray⟩, .slice az t.args.length cz, .slice lz t.labels.length dz, .bool t.opn] 28)) [cellsR bZ 28 #[.int .i64 t.kind, .string ⟨t.s.toArray⟩, .slice az t.args.length cz, .slice lz t.labels.length dz, .bool t.opn], tyR OZ t (.agg #[.int .i64 t.kind, .string ⟨t.s.toArray⟩, .slice az t.args.length cz, .slice lz t.labels.length dz, .bool t.opn]), cellsR bY 28 #[.int .i64 0, .string ⟨#[]⟩, .slice none 0 0, .slice none 0 0, .bool false], cellsR bX 28 #[.int .i64 0, .string ⟨#[]⟩, .slice none 0 0, .slice none 0 0, .bool false], cellsR bU 28 #[.int .i64 u.kind, .string ⟨u.s.toArray⟩, .slice ab u.args.length cb, .slice bl u.labels.length dl, .bool u.opn], tyR O2 u (.agg #[.int .i64 u.kind, .string ⟨u.s.toArray⟩, .slice ab u.args.length cb, .slice bl u.labels.length dl, .bool u.opn]), cellsR bT 28 #[.int .i64 t.kind, .string ⟨t.s.toArray⟩, .slice aa t.args.length ca, .slice al t.labels.length cl, .bool t.opn], tyR O t (.agg #[.int .i64 t.kind, .string ⟨t.s.toArray⟩, .slice aa t.args.length ca, .slice al t.labels.length cl, .bool t.opn])]) := M25
  have p0 := M25.cell 4 rfl 0 rfl
  have p1 := M25.cell 4 rfl 1 rfl
  have p2 := M25.cell 4 rfl 2 rfl
  have p3 := M25.cell 4 rfl 3 rfl
  have p4 := M25.cell 4 rfl 4 rfl
  have q0 := M25.cell 6 rfl 0 rfl
  have q1 := M25.cell 6 rfl 1 rfl
  have q2 := M25.cell 6 rfl 2 rfl
  have q3 := M25.cell 6 rfl 3 rfl
  have q4 := M25.cell 6 rfl 4 rfl
  have HS1 := Tre.hid (same_any 4194304 t u _ _ _ HWT.out (by omega) (M25.at_ 7 rfl).1.rd (M25.at_ 5 rfl).1.rd)
  clear m25 M25 HOZ HM23
  go_wp2_with fail
  try rw [hbZ]
  clear hbZ
  generalize hw26 : w25.alloc (.cells #[.int .i64 t.kind, .string ⟨t.s.toArray⟩, .slice az t.args.length cz, .slice lz t.labels.length dz, .bool t.opn] 28) = w26 at *
  clear hw26
  refine HS1.out.mono ?_
  rintro e w27 ⟨r1, rfl, _, b27⟩
  have HM27 := Tre.hid (HM25.out.quiet b27)
  clear b27 HS1 HM25 p0 p1 p2 p3 p4 q0 q1 q2 q3 q4
  cases r1 with
  | true =>
   have HB := Tre.hid HM27.out.below
   clear HM27
   go_wp2_with fail
   go_ret
   exact ⟨rfl, HB.out⟩
  | false =>
   have q0 := HM27.out.cell 0 rfl 0 rfl
   have q1 := HM27.out.cell 0 rfl 1 rfl
   have q2 := HM27.out.cell 0 rfl 2 rfl
   have q3 := HM27.out.cell 0 rfl 3 rfl
   have q4 := HM27.out.cell 0 rfl 4 rfl
   have r0 := HM27.out.cell 6 rfl 0 rfl
   have r1 := HM27.out.cell 6 rfl 1 rfl
   have r2 := HM27.out.cell 6 rfl 2 rfl
   have r3 := HM27.out.cell 6 rfl 3 rfl
   have r4 := HM27.out.cell 6 rfl 4 rfl
   have HS3 := Tre.hid (same_any 4194304 t t _ _ _ HWT.out (by omega) (HM27.out.at_ 1 rfl).1.rd (HM27.out.at_ 7 rfl).1.rd)
   go_wp2_with fail
   refine HS3.out.mono ?_
   rintro e w29 ⟨r3, rfl, hr3, b29⟩
   obtain rfl : r3 = true := hr3 rfl
   have HB := Tre.hid (HM27.out.quiet b29).below
   clear b29 hr3 HS3 HM27 q0 q1 q2 q3 q4 r0 r1 r2 r3 r4
   go_wp2_with fail
   go_ret
   exact ⟨rfl, HB.out⟩

end Go.Proofs.YtbafalfmgibnfaaGreatDoor.typ
namespace Go.Proofs.YtbafalfmgibnfaaGreatDoor.lex
open Go.ChangeShapes Go.WideShapes Go.RowKit Go.Tre
theorem envMax {w : World} (h : w.ShapedOpen Tryz.prog) : MaxAt w :=
 Go.Proofs.cell_of_shapedOpen_int (zero := #[.int .i64 0]) (t := 3) h (of_decide_eq_true (by kernel_rfl)) (by kernel_rfl) rfl (by kernel_rfl) (by kernel_rfl) Tryz.underlying3
def spaceTab : List Int := (List.range 256).map fun c => if spB (UInt8.ofNat c) = true then 1 else 0
theorem spaceData : (Rows.laid_strings_asciiSpace : DataW Unit) = Lib.tabData .u8 spaceTab := by kernel_rfl
theorem envSpace {W : World} {l : List (String × DataW Unit)} (h : laidMetH Tryz.prog l W) (e : l.filter (fun x => x.1 == "strings.asciiSpace") = [("strings.asciiSpace", Rows.laid_strings_asciiSpace)]) : SpaceAt W := by
 have h1 := laidMetH.filter (fun x => x.1 == "strings.asciiSpace") h
 rw [e, spaceData] at h1
 have h2 : Lib.TabIs Tryz.prog W "strings.asciiSpace" .u8 spaceTab :=
  Lib.tabIs_of_head (rest := []) (g := 1) (t := 160) (e := 5) (n := 256) (by kernel_rfl) (by kernel_rfl) Tryz.underlying160 Tryz.underlying5 (by kernel_rfl) (by kernel_rfl) h1
 intro c
 have hc := c.toNat_lt
 have h3 := h2.cell (g := 1) (by kernel_rfl) c.toNat (by unfold spaceTab; simp; omega)
 rw [h3]
 unfold spaceTab
 rw [List.getD_eq_getElem?_getD, List.getElem?_map, List.getElem?_range (by omega)]
 simp
theorem envRange {W : World} {l : List (String × DataW Unit)} (h : laidMetH Tryz.prog l W) (e : l.filter (fun x => x.1 == "strconv.ErrRange") = [("strconv.ErrRange", Rows.laid_strconv_ErrRange)]) : RangeAt W := by
 have h1 := laidMetH.filter (fun x => x.1 == "strconv.ErrRange") h
 rw [e] at h1
 have h2 : laidMet Tryz.prog [("strconv.ErrRange", Rows.laid_strconv_ErrRange)] W := h1
 obtain ⟨ps, ⟨g', t', cs, fuel, p, q, hg', ht', hvar, hd, _, _⟩, _⟩ := h2
 obtain rfl := Option.some.inj ((show Tryz.prog.globalNamed "strconv.ErrRange" = some 5 by kernel_rfl).symm.trans hg')
 obtain rfl := Option.some.inj ((show (Tryz.prog.globals[5]?).map (·.type) = some 59 by kernel_rfl).symm.trans ht')
 obtain ⟨f1, u, v, hcs, _, _⟩ := iface_of_trod Tryz.underlying59 hd
 refine ⟨u, v, ?_⟩
 have h3 := World.var?_cell hg' hvar 0
 have h4 : cs[0]? = some (.iface u v) := by rw [← Array.getElem?_toList, hcs]; rfl
 rw [h3, h4]
theorem errRows : ((List.range Tryz.prog.types.size).filter fun t => Tryz.prog.rowNamed t [101, 114, 114, 111, 114]) = [59] := by kernel_rfl
theorem envErr {W : World} {l : List (String × DataW Unit)} (h : laidMetH Tryz.prog l W) (e : l.filter (fun x => x.1 == "errors.errorType") = [("errors.errorType", Rows.laid_errors_errorType)]) : ErrT W := by
 have h1 := laidMetH.filter (fun x => x.1 == "errors.errorType") h
 rw [e] at h1
 have h' : laidMet Tryz.prog [] W ∧ handlesMet Tryz.prog [("errors.errorType", Rows.laid_errors_errorType)] W := h1
 obtain ⟨name, u, ty, e1, e2, e3, e4, e5⟩ := h'.2 _ (List.mem_singleton.2 rfl)
 have en : name = [101, 114, 114, 111, 114] := (Option.some.inj e1).symm
 subst en
 obtain rfl := Option.some.inj ((show (Tryz.prog.cutTypes.find? (·.1 == "internal/reflectlite.rtype")).map (·.2) = some 129 by kernel_rfl).symm.trans e2)
 have hm : ty ∈ (List.range Tryz.prog.types.size).filter fun t => Tryz.prog.rowNamed t [101, 114, 114, 111, 114] := List.mem_filter.2 ⟨List.mem_range.2 e3, e4⟩
 rw [errRows] at hm
 obtain rfl := List.mem_singleton.1 hm
 have hh : typeHandle Tryz.prog 59 = .pointer (some (rtA 59)) := by kernel_rfl
 rw [hh] at e5
 show W.cell? ⟨0, 0, none⟩ = _
 simpa using World.var?_cell (show Tryz.prog.globalNamed "errors.errorType" = some 0 by kernel_rfl) e5 0
theorem env_of {W : World} {l : List (String × DataW Unit)} (hsh : W.ShapedOpen Tryz.prog) (h : laidMetH Tryz.prog l W) (e1 : l.filter (fun x => x.1 == "strings.asciiSpace") = [("strings.asciiSpace", Rows.laid_strings_asciiSpace)])
  (e2 : l.filter (fun x => x.1 == "strconv.ErrRange") = [("strconv.ErrRange", Rows.laid_strconv_ErrRange)]) (e3 : l.filter (fun x => x.1 == "errors.errorType") = [("errors.errorType", Rows.laid_errors_errorType)]) : LexEnv W :=
 ⟨envMax hsh, envSpace h e1, envRange h e2, envErr h e3⟩
end Go.Proofs.YtbafalfmgibnfaaGreatDoor.lex
namespace Go.Tre
open Go.RowKit Go.ChangeShapes Go.Deep
theorem addr_plain {w : World} {a : Addr} {j : Nat} {u : Value} (h : w.cell? (a.add j) = some u) : (∃ b off, a = ⟨b, off, none⟩) ∨ 0 < j := by
 by_cases hj : j = 0
 ·subst hj
  left
  obtain ⟨b, off, s⟩ := a
  simp [Addr.add, World.cell?] at h
  split at h
  ·by_cases hs : s = none
   ·subst hs; exact ⟨_, _, rfl⟩
   ·have : s.isSome = true := Option.isSome_iff_ne_none.2 hs
    simp [this] at h
  ·cases h
 ·exact .inr (by omega)
theorem add_plain (b off j : Nat) : (⟨b, off, none⟩ : Addr).add j = ⟨b, off + j, none⟩ := by
 unfold Addr.add
 by_cases h : j = 0 <;> simp [h]
section
variable {P : Program} {H : Type} {enc : TypeId × Value → H} {w : World} {base : Nat} {sp : Nat → Bool} {held : Bool}
end
end Go.Tre
namespace Go.Proofs.YtbafalfmgibnfaaGreatDoor.gr
open Go.RowKit Go.Maps Go.Tre lex Go.ChangeShapes Go.Deep
set_option maxRecDepth 100000
theorem bulk_map {H : Type} (D : Nat → DataW H) (W : Nat → Nat) : ∀ (l : List Nat), (∀ i ∈ l, W i ≤ Rows.uptoBulk (D i)) → (l.map W).sum ≤ Rows.uptoBulkAll (l.map D)
 | [], _ => by simp
 | i :: r, h => by
  have h1 := h i (by simp)
  have h2 := bulk_map D W r (fun j hj => h j (by simp [hj]))
  simp only [List.map_cons, List.sum_cons, Rows.uptoBulkAll]
  omega
theorem bulk_pos {H : Type} (d : DataW H) : 1 ≤ Rows.uptoBulk d := by unfold Rows.uptoBulk; split <;> omega
end Go.Proofs.YtbafalfmgibnfaaGreatDoor.gr
