/- TypArrows: the walk. What a row that lists the library's variables tells of the world: what the lexer wants. Arguments out of their readings: what all of them share; the wrap for a row with a bound, the world's shape kept. -/
import Derived.Test.YtbafalfmgibnfaaGreatDoorB21
import Derived.Test.YtbafalfmgibnfaaGreatDoorB22
import Derived.Test.YtbafalfmgibnfaaGreatDoorB23
import Derived.Test.YtbafalfmgibnfaaGreatDoorB10
import Derived.Test.YtbafalfmgibnfaaGreatDoorRows
import Derived.Lib.LaidTab
import Derived.LaidSub
import Derived.LaidMore
import Derived.LaidHandle
import Derived.LaidLaws
import Derived.WalkKit
import Derived.Test.YtbafalfmgibnfaaGreatDoorB00
import Derived.Test.YtbafalfmgibnfaaGreatDoorB02
import Derived.JoinedCond
import Derived.ChangeSlices
import Derived.SliceStrings
import Derived.Deep.Slices
import Derived.Shelf.Vars
set_option linter.unusedVariables false
namespace Go.Tre
theorem tyRd_two {w : World} (n : Nat) {a b : Ty} {va vb : Array Value} {blk : Nat} (ha : TyRd w a (.agg va)) (hb : TyRd w b (.agg vb)) (sa : va.size = 5) (sb : vb.size = 5) (hc : ∀ (j : Nat) (u : Value), (va ++ vb)[j]? = some u → w.cell? ⟨blk, j, none⟩ = some u) :
  TyRd w (.mk 2 (opS n) [a, b] [] false) (.agg #[.int .i64 2, .string ⟨(opS n).toArray⟩, .slice (some ⟨blk, 0, none⟩) 2 2, .slice none 0 0, .bool false]) := by
 refine .mk (args := [a, b]) (labels := []) (fun i => if i = 0 then va else vb) (fun i x h => by simp at h) (fun i hi => ?_) (fun i c hc' => ?_)
 ·refine ⟨blk, 0, rfl, ?_, fun j u hu => ?_⟩
  ·split <;> assumption
  ·match i, hi with
   | 0, _ =>
    have hu' : va[j]? = some u := hu
    have := hc j u (by rw [Array.getElem?_append_left (Array.getElem?_eq_some_iff.1 hu').1]; exact hu')
    simpa using this
   | 1, _ =>
    have hu' : vb[j]? = some u := hu
    have := hc (5 + j) u (by rw [Array.getElem?_append_right (by omega), sa, Nat.add_sub_cancel_left]; exact hu')
    simpa using this
 ·match i, hc' with
  | 0, h => cases h; exact ha
  | 1, h => cases h; exact hb
  | i + 2, h => simp at h
theorem row_size {n : Nat} (hn : n = 1 ∨ n = 2) (t u : Ty) : (rowText n t u).length ≤ 2 * (putS t).length + (putS u).length + 20 := by
 have h : (opS n).length ≤ 2 := by rcases hn with rfl | rfl <;> decide
 unfold rowText
 simp only [List.length_append, List.length_cons, List.length_nil]
 omega
end Go.Tre
namespace Go.Proofs.YtbafalfmgibnfaaGreatDoor.typ
open Go.RowKit Go.Shelf Go.Maps Go.Tre gr lex tree part
set_option maxRecDepth 100000 in
set_option maxHeartbeats 16000000 in
theorem arrowsLaw (a b : Option Addr) (ca0 cb0 : Nat) (l m : List Prt) (w : World) (hl : PrtsAt w a l) (hm : PrtsAt w b m) (hlen : l.length ≤ 1048576) (hlen2 : m.length ≤ 1048576) (hcap : l.length ≤ ca0) (hcap2 : m.length ≤ cb0) (E : LexEnv w) :
  Calls Tryz.prog 4 #[.slice a l.length ca0, .slice b m.length cb0] w fun e w' => e = .returned (.bool true) ∧ Below w.heap.size w w' := by
 have HX := Tre.hid E.max
 have HPL := Tre.hid hl
 have HPM := Tre.hid hm
 have HA := Tre.hid (alive03 w E)
 have HENV := Tre.hid E
 clear E hl hm
 go_enter Tryz.func4, Tryz.ntmps4
 go_wp2_with fail
 refine HA.out.mono ?_
 rintro e w1 ⟨rfl, b1⟩
 have HB1 := Tre.hid b1
 clear b1 HA
 go_wp2_with fail
 refine (great3_any a ca0 l _ (HPL.out.below HB1.out) hlen).mono ?_
 rintro e w2 ⟨rfl, b2⟩
 have HB2 := Tre.hid (HB1.out.trans (b2.mono HB1.out.size))
 clear b2 HB1
 cases hg : great3B l with
 | true =>
  clear hg
  go_wp2_with fail
  go_ret
  exact ⟨rfl, HB2.out⟩
 | false =>
 have hsm := great3_small hg
 have HWG : Hid ((ofTy l).weight ≤ 17004) := hsm.1
 clear hg hsm
 go_wp2_with fail
 refine (great3_any b cb0 m _ (HPM.out.below HB2.out) hlen2).mono ?_
 rintro e w2' ⟨rfl, b2⟩
 have HB3 := Tre.hid (HB2.out.trans (b2.mono HB2.out.size))
 clear b2 HB2
 cases hg : great3B m with
 | true =>
  clear hg
  go_wp2_with fail
  go_ret
  exact ⟨rfl, HB3.out⟩
 | false =>
 have hsm := great3_small hg
 have HWM : Hid ((ofTy m).weight ≤ 17004) := hsm.1
 clear hg hsm
 have HOF := Tre.hid (of_any w (l.length + 1) l a ca0 w2' HB3.out (Nat.lt_succ_self _) hlen hcap HPL.out)
 go_wp2_with fail
 refine HOF.out.mono ?_
 rintro e w3 ⟨O, aa, al, ca, cl, a', c', rfl, _, _, m3⟩
 have hty : (ofP (l.length + 1) l).1 = ofTy l := rfl
 rw [hty] at m3 ⊢
 obtain ⟨t, ht⟩ : ∃ t, ofTy l = t := ⟨_, rfl⟩
 rw [ht] at m3 HWG ⊢
 have M3 := (Mem.of_below HB3.out).call m3
 have M4 := M3.allocR #[.int .i64 t.kind, .string ⟨t.s.toArray⟩, .slice aa t.args.length ca, .slice al t.labels.length cl, .bool t.opn] 28
 obtain ⟨bT, hbT⟩ : ∃ bT, w3.heap.size = bT := ⟨_, rfl⟩
 rw [hbT] at M4
 have HM4 := Tre.hid M4
 clear HOF hty ht m3 M3 M4 HB3
 generalize (ofP (l.length + 1) l).2 = rest at *
 have HOF := Tre.hid (of_any w (m.length + 1) m b cb0 _ HM4.out.below (Nat.lt_succ_self _) hlen2 hcap2 HPM.out)
 go_wp2_with fail
 try rw [hbT]
 clear hbT
 refine HOF.out.mono ?_
 rintro e w5 ⟨O2, ab, bl, cb, dl, b', c2', rfl, _, _, m5⟩
 have hty : (ofP (m.length + 1) m).1 = ofTy m := rfl
 rw [hty] at m5 ⊢
 obtain ⟨u, hu⟩ : ∃ u, ofTy m = u := ⟨_, rfl⟩
 rw [hu] at m5 HWM ⊢
 have M5 := HM4.out.call m5
 have M6 := M5.allocR #[.int .i64 u.kind, .string ⟨u.s.toArray⟩, .slice ab u.args.length cb, .slice bl u.labels.length dl, .bool u.opn] 28
 obtain ⟨bU, hbU⟩ : ∃ bU, w5.heap.size = bU := ⟨_, rfl⟩
 rw [hbU] at M6
 have HM6 : Hid (Mem w (w5.alloc (.cells #[.int .i64 u.kind, .string ⟨u.s.toArray⟩, .slice ab u.args.length cb, .slice bl u.labels.length dl, .bool u.opn] 28)) [cellsR bU 28 #[.int .i64 u.kind, .string ⟨u.s.toArray⟩, .slice ab u.args.length cb, .slice bl u.labels.length dl, .bool u.opn], tyR O2 u (.agg #[.int .i64 u.kind, .string ⟨u.s.toArray⟩, .slice ab u.args.length cb, .slice bl u.labels.length dl, .bool u.opn]), cellsR bT 28 #[.int .i64 t.kind, .string ⟨t.s.toArray⟩, .slice aa t.args.length ca, .slice al t.labels.length cl, .bool t.opn], tyR O t (.agg #[.int .i64 t.kind, .string ⟨t.s.toArray⟩, .slice aa t.args.length ca, .slice al t.labels.length cl, .bool t.opn])]) := M6
 have x0 := HM6.out.cell 2 rfl 0 rfl
 have x1 := HM6.out.cell 2 rfl 1 rfl
 have x2 := HM6.out.cell 2 rfl 2 rfl
 have x3 := HM6.out.cell 2 rfl 3 rfl
 have x4 := HM6.out.cell 2 rfl 4 rfl
 clear HOF hty hu m5 M5 M6 HM4
 generalize (ofP (m.length + 1) m).2 = rest2 at *
 go_wp2_with fail
 try rw [hbU]
 clear hbU
 generalize hw6 : w5.alloc (.cells #[.int .i64 u.kind, .string ⟨u.s.toArray⟩, .slice ab u.args.length cb, .slice bl u.labels.length dl, .bool u.opn] 28) = w6 at *
 clear hw6
 have HPT := Tre.hid (Put_any t _ w6 (HM6.out.at_ 3 rfl).1.rd (by have := HWG.out; omega) (HX.out.below HM6.out.below))
 obtain ⟨vd, hvd⟩ : ∃ vd, verdictI (walkT t) = vd := ⟨_, rfl⟩
 rw [hvd] at HPT
 obtain ⟨pa, hpa⟩ : ∃ pa, (if vd = 0 then putS t else []) = pa := ⟨_, rfl⟩
 rw [hpa] at HPT
 refine HPT.out.mono ?_
 rintro e w7 ⟨rfl, b7⟩
 have HVD := Tre.hid hvd
 have HPA := Tre.hid hpa
 have HM7 := Tre.hid (HM6.out.quiet b7)
 clear b7 HPT HM6 hvd hpa x0 x1 x2 x3 x4
 have x0 := HM7.out.cell 0 rfl 0 rfl
 have x1 := HM7.out.cell 0 rfl 1 rfl
 have x2 := HM7.out.cell 0 rfl 2 rfl
 have x3 := HM7.out.cell 0 rfl 3 rfl
 have x4 := HM7.out.cell 0 rfl 4 rfl
 go_wp2_with fail
 have HPU := Tre.hid (Put_any u _ w7 (HM7.out.at_ 1 rfl).1.rd (by have := HWM.out; omega) (HX.out.below HM7.out.below))
 obtain ⟨ve, hve⟩ : ∃ ve, verdictI (walkT u) = ve := ⟨_, rfl⟩
 rw [hve] at HPU
 obtain ⟨pb, hpb⟩ : ∃ pb, (if ve = 0 then putS u else []) = pb := ⟨_, rfl⟩
 rw [hpb] at HPU
 refine HPU.out.mono ?_
 rintro e w8 ⟨rfl, b8⟩
 have HVE := Tre.hid hve
 have HPB := Tre.hid hpb
 have HM8 := Tre.hid (HM7.out.quiet b8)
 clear b8 HPU HM7 hve hpb x0 x1 x2 x3 x4
 by_cases hv0 : vd = 0
 rotate_left
 ·have e0 : (vd == 0) = false := by simpa using hv0
  have HB := Tre.hid HM8.out.below
  clear HM8
  go_wp2_with fail
  go_ret
  exact ⟨rfl, HB.out⟩
 subst hv0
 by_cases hv1 : ve = 0
 rotate_left
 ·have e0 : (ve == 0) = false := by simpa using hv1
  have HB := Tre.hid HM8.out.below
  clear HM8
  go_wp2_with fail
  go_ret
  exact ⟨rfl, HB.out⟩
 subst hv1
 have hlp := HPA.out
 rw [if_pos rfl] at hlp
 have hlq := HPB.out
 rw [if_pos rfl] at hlq
 have HTP := Tre.hid hlp
 have HUP := Tre.hid hlq
 have t0 := fine_walk HVD.out
 have u0 := fine_walk HVE.out
 have HFT := Tre.hid (fine_of _ t (Nat.le_refl _) t0)
 have HFU := Tre.hid (fine_of _ u (Nat.le_refl _) u0)
 have HT0 := Tre.hid t0
 have HU0 := Tre.hid u0
 have hla : pa.length ≤ 340080 := by
  have h := spT_len HFT.out 0 false
  have h2 := HWG.out
  rw [← hlp]
  exact Nat.le_trans h (by omega)
 have hlb : pb.length ≤ 340080 := by
  have h := spT_len HFU.out 0 false
  have h2 := HWM.out
  rw [← hlq]
  exact Nat.le_trans h (by omega)
 clear hlp hlq t0 u0 HPA HPB HVD HVE
 have hwr : IntKind.i64.wrap ((pa.length : Int) + (pb.length : Int)) = (pa.length : Int) + (pb.length : Int) := IntWalk.i64_in _ (by omega)
 by_cases hbig : 10000 < pa.length + pb.length
 ·have hb2 : (10000 : Int) < (pa.length : Int) + (pb.length : Int) := by omega
  have HB := Tre.hid HM8.out.below
  clear hbig HM8
  go_wp2_with fail
  go_ret
  exact ⟨rfl, HB.out⟩
 have hb2 : ¬ ((10000 : Int) < (pa.length : Int) + (pb.length : Int)) := by omega
 clear hb2 hwr
 have HI0 : Hid (Mem w w8 [cellsR bU 28 #[.int .i64 u.kind, .string ⟨u.s.toArray⟩, .slice ab u.args.length cb, .slice bl u.labels.length dl, .bool u.opn], tyR O2 u (.agg #[.int .i64 u.kind, .string ⟨u.s.toArray⟩, .slice ab u.args.length cb, .slice bl u.labels.length dl, .bool u.opn]), cellsR bT 28 #[.int .i64 t.kind, .string ⟨t.s.toArray⟩, .slice aa t.args.length ca, .slice al t.labels.length cl, .bool t.opn], tyR O t (.agg #[.int .i64 t.kind, .string ⟨t.s.toArray⟩, .slice aa t.args.length ca, .slice al t.labels.length cl, .bool t.opn])]) := HM8
 clear HM8
 go_wp2_with fail
 go_loopw [65] (fun v65 wr => ∃ k : Nat, k ≤ 2 ∧ v65 = .int .i64 k ∧ Hid (Mem w wr [cellsR bU 28 #[.int .i64 u.kind, .string ⟨u.s.toArray⟩, .slice ab u.args.length cb, .slice bl u.labels.length dl, .bool u.opn], tyR O2 u (.agg #[.int .i64 u.kind, .string ⟨u.s.toArray⟩, .slice ab u.args.length cb, .slice bl u.labels.length dl, .bool u.opn]), cellsR bT 28 #[.int .i64 t.kind, .string ⟨t.s.toArray⟩, .slice aa t.args.length ca, .slice al t.labels.length cl, .bool t.opn], tyR O t (.agg #[.int .i64 t.kind, .string ⟨t.s.toArray⟩, .slice aa t.args.length ca, .slice al t.labels.length cl, .bool t.opn])])) (fun v65 _ => 2 - (intOf v65).toNat)
 case atStart => exact ⟨0, Nat.zero_le _, rfl, HI0.out⟩
 case round =>
  clear HI0
  obtain ⟨k, hk, rfl, hI⟩ := hrel
  obtain rfl | rfl | rfl : k = 0 ∨ k = 1 ∨ k = 2 := by omega
  ·skip
   have HSZ : Hid ((((((((((((⟨#[40]⟩ : ByteArray) ++ (⟨pa.toArray⟩ : ByteArray)) ++ (⟨#[41, 32]⟩ : ByteArray)) ++ (⟨#[45, 62]⟩ : ByteArray)) ++ (⟨#[32, 40]⟩ : ByteArray)) ++ (⟨pb.toArray⟩ : ByteArray)) ++ (⟨#[41, 32]⟩ : ByteArray)) ++ (⟨#[45, 62]⟩ : ByteArray)) ++ (⟨#[32, 40]⟩ : ByteArray)) ++ (⟨pa.toArray⟩ : ByteArray)) ++ (⟨#[41]⟩ : ByteArray)).data.toList = rowText 1 t u) := by
    show _ = _
    unfold rowText opS
    rw [HTP.out, HUP.out]
    simp [ByteArray.data_append]
   have hsz : (((((((((((⟨#[40]⟩ : ByteArray) ++ (⟨pa.toArray⟩ : ByteArray)) ++ (⟨#[41, 32]⟩ : ByteArray)) ++ (⟨#[45, 62]⟩ : ByteArray)) ++ (⟨#[32, 40]⟩ : ByteArray)) ++ (⟨pb.toArray⟩ : ByteArray)) ++ (⟨#[41, 32]⟩ : ByteArray)) ++ (⟨#[45, 62]⟩ : ByteArray)) ++ (⟨#[32, 40]⟩ : ByteArray)) ++ (⟨pa.toArray⟩ : ByteArray)) ++ (⟨#[41]⟩ : ByteArray)).size = (rowText 1 t u).length := by rw [← HSZ.out]; rfl
   have hidx : ∀ W : World, (Instr.index 43 (.agg #[.string ⟨#[45, 62]⟩, .string ⟨#[42]⟩]) (.int .i64 0)).run Tryz.prog W = .ok (.string ⟨#[45, 62]⟩) W := fun _ => by kernel_rfl
   have hrs := row_size (n := 1) (by omega) t u
   rw [HTP.out, HUP.out] at hrs
   have hc0 : ¬ (9223372036854775807 < 1 + pa.length) := by omega
   have hc1 : ¬ (9223372036854775807 < 1 + pa.length + 2) := by omega
   have hc2 : ¬ (9223372036854775807 < 1 + pa.length + 2 + 2) := by omega
   have hc3 : ¬ (9223372036854775807 < 1 + pa.length + 2 + 2 + 2) := by omega
   have hc4 : ¬ (9223372036854775807 < 1 + pa.length + 2 + 2 + 2 + pb.length) := by omega
   have hc5 : ¬ (9223372036854775807 < 1 + pa.length + 2 + 2 + 2 + pb.length + 2) := by omega
   have hc6 : ¬ (9223372036854775807 < 1 + pa.length + 2 + 2 + 2 + pb.length + 2 + 2) := by omega
   have hc7 : ¬ (9223372036854775807 < 1 + pa.length + 2 + 2 + 2 + pb.length + 2 + 2 + 2) := by omega
   have hc8 : ¬ (9223372036854775807 < 1 + pa.length + 2 + 2 + 2 + pb.length + 2 + 2 + 2 + pa.length) := by omega
   have hc9 : ¬ (9223372036854775807 < 1 + pa.length + 2 + 2 + 2 + pb.length + 2 + 2 + 2 + pa.length + 1) := by omega
   obtain ⟨SP, hSP⟩ : ∃ x, rowSp 1 t u false = x := ⟨_, rfl⟩
   obtain ⟨RT, hRT⟩ : ∃ x, rowTy 1 t u = x := ⟨_, rfl⟩
   have hgo := row_goods (n := 1) (by omega) HFT.out HFU.out
   have hse := row_spell 1 (by omega) t u
   have hpr := row_parse (n := 1) (by omega) HFT.out HFU.out
   have hwk := row_walk (n := 1) (by omega) HT0.out HU0.out
   have hww := row_weight 1 t u
   rw [hSP] at hgo hse hpr
   rw [hRT] at hpr hwk hww
   have hlx := lex.Lex (((((((((((⟨#[40]⟩ : ByteArray) ++ (⟨pa.toArray⟩ : ByteArray)) ++ (⟨#[41, 32]⟩ : ByteArray)) ++ (⟨#[45, 62]⟩ : ByteArray)) ++ (⟨#[32, 40]⟩ : ByteArray)) ++ (⟨pb.toArray⟩ : ByteArray)) ++ (⟨#[41, 32]⟩ : ByteArray)) ++ (⟨#[45, 62]⟩ : ByteArray)) ++ (⟨#[32, 40]⟩ : ByteArray)) ++ (⟨pa.toArray⟩ : ByteArray)) ++ (⟨#[41]⟩ : ByteArray)) wr (by rw [hsz]; omega) (HENV.out.below hI.out.below)
   rw [HSZ.out, ← hse, lexS_spell hgo (by rw [hse]; omega)] at hlx
   obtain ⟨NN, hNN⟩ : ∃ x, (spell SP).length = x := ⟨_, rfl⟩
   have hNR : (rowText 1 t u).length = NN := by rw [← hse, hNN]
   rw [hNN] at hlx
   obtain ⟨K, hK⟩ := hpr NN
   have hK1 := hK K (Nat.le_refl _)
   have hix := toks_idx NN hgo
   have hln := toksOf_len NN SP
   have hwR : RT.weight ≤ 4194304 := by have h1 := HWG.out; have h2 := HWM.out; omega
   have hll : (toksOf NN SP).length ≤ 4194304 := by
    have h := spell_long hgo
    omega
   obtain ⟨TS, hTS⟩ : ∃ x, toksOf NN SP = x := ⟨_, rfl⟩
   rw [hTS] at hlx hK1 hix hln hll
   have HLX := Tre.hid hlx
   have HK := Tre.hid hK1
   have HIX : Hid (idxFunc noEnd TS = ((TS.length - 1 : Nat) : Int)) := hix
   have HLN := Tre.hid hln
   have HLL := Tre.hid hll
   have HWK := Tre.hid hwk
   have HWR := Tre.hid hwR
   have HRT := Tre.hid hRT
   have HIM := Tre.hid hI.out
   generalize SP.length = nL at *
   clear hSP hRT hgo hse hpr hNR hwk hww hlx hNN hK hK1 hix hln hwR hTS hll hrs hsz HSZ hI
   go_wp2_with fail
   refine HLX.out.mono ?_
   intro e w11 hp
   rcases hp with ⟨ts, v, hts, rfl, m11⟩ | ⟨hd, _⟩
   rotate_left
   ·cases hd
   cases hts
   have M11 := HIM.out.call m11
   obtain ⟨at_, ct, rfl, _⟩ := M11.val 0 rfl
   have HTK := Tre.hid (toks_of M11 0 rfl rfl)
   have HM11 := Tre.hid M11
   clear m11 M11 HLX HIM hidx hc0 hc1 hc2 hc3 hc4 hc5 hc6 hc7 hc8 hc9
   have hnn := HLN.out
   have hwl : IntKind.i64.wrap ((TS.length : Int) - 1) = (nL : Int) := by rw [IntWalk.i64_in _ (by have := HLL.out; omega)]; omega
   by_cases hv : verdictI (walkT RT) = 0
   rotate_left
   ·have hv4 : verdictI (walkT RT) = 4 := by
     have h := HWK.out
     unfold verdictI at hv ⊢
     rw [if_neg (by omega)] at hv ⊢
     split
     ·rfl
     ·rename_i h2; rw [if_neg h2] at hv; exact absurd rfl hv
    have HP := Tre.hid (Parse_deep at_ ct TS 0 K nL RT w11 HTK.out HLL.out (by omega) HIX.out (by omega) HK.out hv4 HWR.out (HX.out.below HM11.out.below))
    clear hv hv4 hnn
    go_wp2_with fail
    refine HP.out.mono ?_
    rintro e w12 ⟨rfl, b12⟩
    have M12 := HM11.out.quiet b12
    have HM13 := Tre.hid (M12.allocR #[.int .i64 0, .string ⟨#[]⟩, .slice none 0 0, .slice none 0 0, .bool false] 28)
    clear b12 M12 HP HM11
    go_wp2_with fail
    go_roundw
    case rel => exact ⟨1, by omega, by go_num, (HM13.out.del 0).del 0⟩
    case measure => simp [intOf]
   have HP := Tre.hid (Parse_ok at_ ct TS 0 K nL RT w11 HTK.out HLL.out (by omega) HIX.out (by omega) HK.out hv HWR.out (HX.out.below HM11.out.below))
   clear hv hnn
   go_wp2_with fail
   refine HP.out.mono ?_
   rintro e w12 ⟨OW, aw, cw, lw, dw, rfl, m12⟩
   have M12 := HM11.out.call m12
   have M13 := M12.allocR #[.int .i64 RT.kind, .string ⟨RT.s.toArray⟩, .slice aw RT.args.length cw, .slice lw RT.labels.length dw, .bool RT.opn] 28
   obtain ⟨bW, hbW⟩ : ∃ bW, w12.heap.size = bW := ⟨_, rfl⟩
   rw [hbW] at M13
   have M14 : Mem w (w12.alloc (.cells #[.int .i64 RT.kind, .string ⟨RT.s.toArray⟩, .slice aw RT.args.length cw, .slice lw RT.labels.length dw, .bool RT.opn] 28)) [cellsR bW 28 #[.int .i64 RT.kind, .string ⟨RT.s.toArray⟩, .slice aw RT.args.length cw, .slice lw RT.labels.length dw, .bool RT.opn], tyR OW RT (.agg #[.int .i64 RT.kind, .string ⟨RT.s.toArray⟩, .slice aw RT.args.length cw, .slice lw RT.labels.length dw, .bool RT.opn]), cellsR bU 28 #[.int .i64 u.kind, .string ⟨u.s.toArray⟩, .slice ab u.args.length cb, .slice bl u.labels.length dl, .bool u.opn], tyR O2 u (.agg #[.int .i64 u.kind, .string ⟨u.s.toArray⟩, .slice ab u.args.length cb, .slice bl u.labels.length dl, .bool u.opn]), cellsR bT 28 #[.int .i64 t.kind, .string ⟨t.s.toArray⟩, .slice aa t.args.length ca, .slice al t.labels.length cl, .bool t.opn], tyR O t (.agg #[.int .i64 t.kind, .string ⟨t.s.toArray⟩, .slice aa t.args.length ca, .slice al t.labels.length cl, .bool t.opn])] := M13.del 2
   have HM14 := Tre.hid M14
   have y0 := M14.cell 2 rfl 0 rfl
   have y1 := M14.cell 2 rfl 1 rfl
   have y2 := M14.cell 2 rfl 2 rfl
   have y3 := M14.cell 2 rfl 3 rfl
   have y4 := M14.cell 2 rfl 4 rfl
   have z0 := M14.cell 4 rfl 0 rfl
   have z1 := M14.cell 4 rfl 1 rfl
   have z2 := M14.cell 4 rfl 2 rfl
   have z3 := M14.cell 4 rfl 3 rfl
   have z4 := M14.cell 4 rfl 4 rfl
   clear m12 M12 M13 M14 HP HM11 HTK
   go_upto_region 17 with fail
   try rw [hbW]
   clear hbW
   generalize hw14 : w12.alloc (.cells #[.int .i64 RT.kind, .string ⟨RT.s.toArray⟩, .slice aw RT.args.length cw, .slice lw RT.labels.length dw, .bool RT.opn] 28) = w14 at *
   clear hw14
   have M16 := (HM14.out.allocR #[.int .i64 u.kind, .string ⟨u.s.toArray⟩, .slice ab u.args.length cb, .slice bl u.labels.length dl, .bool u.opn, .int .i64 t.kind, .string ⟨t.s.toArray⟩, .slice aa t.args.length ca, .slice al t.labels.length cl, .bool t.opn] 28).allocR #[.int .i64 2, .string ⟨#[45, 62]⟩, .slice (some ⟨w14.heap.size, 0, none⟩) 2 2, .slice none 0 0, .bool false] 28
   rw [World.size_alloc] at M16
   obtain ⟨bN, hbN⟩ : ∃ bN, w14.heap.size = bN := ⟨_, rfl⟩
   rw [hbN] at M16
   have HM16 := Tre.hid M16
   clear M16 HM14
   go_upto_region 18 with fail
   try rw [hbN]
   clear y0 y1 y2 y3 y4 z0 z1 z2 z3 z4
   generalize hw16 : (w14.alloc (.cells #[.int .i64 u.kind, .string ⟨u.s.toArray⟩, .slice ab u.args.length cb, .slice bl u.labels.length dl, .bool u.opn, .int .i64 t.kind, .string ⟨t.s.toArray⟩, .slice aa t.args.length ca, .slice al t.labels.length cl, .bool t.opn] 28)).alloc (.cells #[.int .i64 2, .string ⟨#[45, 62]⟩, .slice (some ⟨bN, 0, none⟩) 2 2, .slice none 0 0, .bool false] 28) = w16 at *
   have p0 := HM16.out.cell 0 rfl 0 rfl
   have p1 := HM16.out.cell 0 rfl 1 rfl
   have p2 := HM16.out.cell 0 rfl 2 rfl
   have p3 := HM16.out.cell 0 rfl 3 rfl
   have p4 := HM16.out.cell 0 rfl 4 rfl
   have q0 := HM16.out.cell 2 rfl 0 rfl
   have q1 := HM16.out.cell 2 rfl 1 rfl
   have q2 := HM16.out.cell 2 rfl 2 rfl
   have q3 := HM16.out.cell 2 rfl 3 rfl
   have q4 := HM16.out.cell 2 rfl 4 rfl
   have r0 := HM16.out.cell 6 rfl 0 rfl
   have r1 := HM16.out.cell 6 rfl 1 rfl
   have r2 := HM16.out.cell 6 rfl 2 rfl
   have r3 := HM16.out.cell 6 rfl 3 rfl
   have r4 := HM16.out.cell 6 rfl 4 rfl
   clear hw16 hbN
   have M17 := HM16.out.allocR #[.int .i64 t.kind, .string ⟨t.s.toArray⟩, .slice aa t.args.length ca, .slice al t.labels.length cl, .bool t.opn, .int .i64 2, .string ⟨#[45, 62]⟩, .slice (some ⟨bN, 0, none⟩) 2 2, .slice none 0 0, .bool false] 28
   have d1 : TyRd _ t (.agg #[.int .i64 t.kind, .string ⟨t.s.toArray⟩, .slice aa t.args.length ca, .slice al t.labels.length cl, .bool t.opn]) := (M17.at_ 8 rfl).1.rd
   have d2 : TyRd _ u (.agg #[.int .i64 u.kind, .string ⟨u.s.toArray⟩, .slice ab u.args.length cb, .slice bl u.labels.length dl, .bool u.opn]) := (M17.at_ 6 rfl).1.rd
   have d3 : TyRd _ RT (.agg #[.int .i64 RT.kind, .string ⟨RT.s.toArray⟩, .slice aw RT.args.length cw, .slice lw RT.labels.length dw, .bool RT.opn]) := (M17.at_ 4 rfl).1.rd
   have d4 := tyRd_two 1 d2 d1 rfl rfl (fun j x hx => M17.cell 2 rfl j hx)
   have d5 := tyRd_two 1 d1 d4 rfl rfl (fun j x hx => M17.cell 0 rfl j hx)
   have HS := Tre.hid (same_any 4194304 RT (rowTy 1 t u) _ _ _ HWR.out (by omega) d3 d5)
   have HM17 := Tre.hid M17
   clear M17 d1 d2 d3 d4 d5 HM16
   go_wp2_with fail
   refine HS.out.mono ?_
   rintro e w18 ⟨r9, rfl, hr9, b18⟩
   obtain rfl : r9 = true := hr9 HRT.out.symm
   have M18 := HM17.out.quiet b18
   have HM18 : Hid (Mem w w18 [cellsR bU 28 #[.int .i64 u.kind, .string ⟨u.s.toArray⟩, .slice ab u.args.length cb, .slice bl u.labels.length dl, .bool u.opn], tyR O2 u (.agg #[.int .i64 u.kind, .string ⟨u.s.toArray⟩, .slice ab u.args.length cb, .slice bl u.labels.length dl, .bool u.opn]), cellsR bT 28 #[.int .i64 t.kind, .string ⟨t.s.toArray⟩, .slice aa t.args.length ca, .slice al t.labels.length cl, .bool t.opn], tyR O t (.agg #[.int .i64 t.kind, .string ⟨t.s.toArray⟩, .slice aa t.args.length ca, .slice al t.labels.length cl, .bool t.opn])]) := ((((M18.del 0).del 0).del 0).del 0).del 0
   clear M18 b18 hr9 HS HM17 p0 p1 p2 p3 p4 q0 q1 q2 q3 q4 r0 r1 r2 r3 r4
   go_wp2_with fail
   go_roundw
   case rel => exact ⟨0 + 1, by omega, by go_num, HM18.out⟩
   case measure => simp [intOf]

  ·skip
   have HSZ : Hid ((((((((((((⟨#[40]⟩ : ByteArray) ++ (⟨pa.toArray⟩ : ByteArray)) ++ (⟨#[41, 32]⟩ : ByteArray)) ++ (⟨#[42]⟩ : ByteArray)) ++ (⟨#[32, 40]⟩ : ByteArray)) ++ (⟨pb.toArray⟩ : ByteArray)) ++ (⟨#[41, 32]⟩ : ByteArray)) ++ (⟨#[42]⟩ : ByteArray)) ++ (⟨#[32, 40]⟩ : ByteArray)) ++ (⟨pa.toArray⟩ : ByteArray)) ++ (⟨#[41]⟩ : ByteArray)).data.toList = rowText 2 t u) := by
    show _ = _
    unfold rowText opS
    rw [HTP.out, HUP.out]
    simp [ByteArray.data_append]
   have hsz : (((((((((((⟨#[40]⟩ : ByteArray) ++ (⟨pa.toArray⟩ : ByteArray)) ++ (⟨#[41, 32]⟩ : ByteArray)) ++ (⟨#[42]⟩ : ByteArray)) ++ (⟨#[32, 40]⟩ : ByteArray)) ++ (⟨pb.toArray⟩ : ByteArray)) ++ (⟨#[41, 32]⟩ : ByteArray)) ++ (⟨#[42]⟩ : ByteArray)) ++ (⟨#[32, 40]⟩ : ByteArray)) ++ (⟨pa.toArray⟩ : ByteArray)) ++ (⟨#[41]⟩ : ByteArray)).size = (rowText 2 t u).length := by rw [← HSZ.out]; rfl
   have hidx : ∀ W : World, (Instr.index 43 (.agg #[.string ⟨#[45, 62]⟩, .string ⟨#[42]⟩]) (.int .i64 1)).run Tryz.prog W = .ok (.string ⟨#[42]⟩) W := fun _ => by kernel_rfl
   have hrs := row_size (n := 2) (by omega) t u
   rw [HTP.out, HUP.out] at hrs
   have hc0 : ¬ (9223372036854775807 < 1 + pa.length) := by omega
   have hc1 : ¬ (9223372036854775807 < 1 + pa.length + 2) := by omega
   have hc2 : ¬ (9223372036854775807 < 1 + pa.length + 2 + 1) := by omega
   have hc3 : ¬ (9223372036854775807 < 1 + pa.length + 2 + 1 + 2) := by omega
   have hc4 : ¬ (9223372036854775807 < 1 + pa.length + 2 + 1 + 2 + pb.length) := by omega
   have hc5 : ¬ (9223372036854775807 < 1 + pa.length + 2 + 1 + 2 + pb.length + 2) := by omega
   have hc6 : ¬ (9223372036854775807 < 1 + pa.length + 2 + 1 + 2 + pb.length + 2 + 1) := by omega
   have hc7 : ¬ (9223372036854775807 < 1 + pa.length + 2 + 1 + 2 + pb.length + 2 + 1 + 2) := by omega
   have hc8 : ¬ (9223372036854775807 < 1 + pa.length + 2 + 1 + 2 + pb.length + 2 + 1 + 2 + pa.length) := by omega
   have hc9 : ¬ (9223372036854775807 < 1 + pa.length + 2 + 1 + 2 + pb.length + 2 + 1 + 2 + pa.length + 1) := by omega
   obtain ⟨SP, hSP⟩ : ∃ x, rowSp 2 t u false = x := ⟨_, rfl⟩
   obtain ⟨RT, hRT⟩ : ∃ x, rowTy 2 t u = x := ⟨_, rfl⟩
   have hgo := row_goods (n := 2) (by omega) HFT.out HFU.out
   have hse := row_spell 2 (by omega) t u
   have hpr := row_parse (n := 2) (by omega) HFT.out HFU.out
   have hwk := row_walk (n := 2) (by omega) HT0.out HU0.out
   have hww := row_weight 2 t u
   rw [hSP] at hgo hse hpr
   rw [hRT] at hpr hwk hww
   have hlx := lex.Lex (((((((((((⟨#[40]⟩ : ByteArray) ++ (⟨pa.toArray⟩ : ByteArray)) ++ (⟨#[41, 32]⟩ : ByteArray)) ++ (⟨#[42]⟩ : ByteArray)) ++ (⟨#[32, 40]⟩ : ByteArray)) ++ (⟨pb.toArray⟩ : ByteArray)) ++ (⟨#[41, 32]⟩ : ByteArray)) ++ (⟨#[42]⟩ : ByteArray)) ++ (⟨#[32, 40]⟩ : ByteArray)) ++ (⟨pa.toArray⟩ : ByteArray)) ++ (⟨#[41]⟩ : ByteArray)) wr (by rw [hsz]; omega) (HENV.out.below hI.out.below)
   rw [HSZ.out, ← hse, lexS_spell hgo (by rw [hse]; omega)] at hlx
   obtain ⟨NN, hNN⟩ : ∃ x, (spell SP).length = x := ⟨_, rfl⟩
   have hNR : (rowText 2 t u).length = NN := by rw [← hse, hNN]
   rw [hNN] at hlx
   obtain ⟨K, hK⟩ := hpr NN
   have hK1 := hK K (Nat.le_refl _)
   have hix := toks_idx NN hgo
   have hln := toksOf_len NN SP
   have hwR : RT.weight ≤ 4194304 := by have h1 := HWG.out; have h2 := HWM.out; omega
   have hll : (toksOf NN SP).length ≤ 4194304 := by
    have h := spell_long hgo
    omega
   obtain ⟨TS, hTS⟩ : ∃ x, toksOf NN SP = x := ⟨_, rfl⟩
   rw [hTS] at hlx hK1 hix hln hll
   have HLX := Tre.hid hlx
   have HK := Tre.hid hK1
   have HIX : Hid (idxFunc noEnd TS = ((TS.length - 1 : Nat) : Int)) := hix
   have HLN := Tre.hid hln
   have HLL := Tre.hid hll
   have HWK := Tre.hid hwk
   have HWR := Tre.hid hwR
   have HRT := Tre.hid hRT
   have HIM := Tre.hid hI.out
   generalize SP.length = nL at *
   clear hSP hRT hgo hse hpr hNR hwk hww hlx hNN hK hK1 hix hln hwR hTS hll hrs hsz HSZ hI
   go_wp2_with fail
   refine HLX.out.mono ?_
   intro e w11 hp
   rcases hp with ⟨ts, v, hts, rfl, m11⟩ | ⟨hd, _⟩
   rotate_left
   ·cases hd
   cases hts
   have M11 := HIM.out.call m11
   obtain ⟨at_, ct, rfl, _⟩ := M11.val 0 rfl
   have HTK := Tre.hid (toks_of M11 0 rfl rfl)
   have HM11 := Tre.hid M11
   clear m11 M11 HLX HIM hidx hc0 hc1 hc2 hc3 hc4 hc5 hc6 hc7 hc8 hc9
   have hnn := HLN.out
   have hwl : IntKind.i64.wrap ((TS.length : Int) - 1) = (nL : Int) := by rw [IntWalk.i64_in _ (by have := HLL.out; omega)]; omega
   by_cases hv : verdictI (walkT RT) = 0
   rotate_left
   ·have hv4 : verdictI (walkT RT) = 4 := by
     have h := HWK.out
     unfold verdictI at hv ⊢
     rw [if_neg (by omega)] at hv ⊢
     split
     ·rfl
     ·rename_i h2; rw [if_neg h2] at hv; exact absurd rfl hv
    have HP := Tre.hid (Parse_deep at_ ct TS 0 K nL RT w11 HTK.out HLL.out (by omega) HIX.out (by omega) HK.out hv4 HWR.out (HX.out.below HM11.out.below))
    clear hv hv4 hnn
    go_wp2_with fail
    refine HP.out.mono ?_
    rintro e w12 ⟨rfl, b12⟩
    have M12 := HM11.out.quiet b12
    have HM13 := Tre.hid (M12.allocR #[.int .i64 0, .string ⟨#[]⟩, .slice none 0 0, .slice none 0 0, .bool false] 28)
    clear b12 M12 HP HM11
    go_wp2_with fail
    go_roundw
    case rel => exact ⟨2, by omega, by go_num, (HM13.out.del 0).del 0⟩
    case measure => simp [intOf]
   have HP := Tre.hid (Parse_ok at_ ct TS 0 K nL RT w11 HTK.out HLL.out (by omega) HIX.out (by omega) HK.out hv HWR.out (HX.out.below HM11.out.below))
   clear hv hnn
   go_wp2_with fail
   refine HP.out.mono ?_
   rintro e w12 ⟨OW, aw, cw, lw, dw, rfl, m12⟩
   have M12 := HM11.out.call m12
   have M13 := M12.allocR #[.int .i64 RT.kind, .string ⟨RT.s.toArray⟩, .slice aw RT.args.length cw, .slice lw RT.labels.length dw, .bool RT.opn] 28
   obtain ⟨bW, hbW⟩ : ∃ bW, w12.heap.size = bW := ⟨_, rfl⟩
   rw [hbW] at M13
   have M14 : Mem w (w12.alloc (.cells #[.int .i64 RT.kind, .string ⟨RT.s.toArray⟩, .slice aw RT.args.length cw, .slice lw RT.labels.length dw, .bool RT.opn] 28)) [cellsR bW 28 #[.int .i64 RT.kind, .string ⟨RT.s.toArray⟩, .slice aw RT.args.length cw, .slice lw RT.labels.length dw, .bool RT.opn], tyR OW RT (.agg #[.int .i64 RT.kind, .string ⟨RT.s.toArray⟩, .slice aw RT.args.length cw, .slice lw RT.labels.length dw, .bool RT.opn]), cellsR bU 28 #[.int .i64 u.kind, .string ⟨u.s.toArray⟩, .slice ab u.args.length cb, .slice bl u.labels.length dl, .bool u.opn], tyR O2 u (.agg #[.int .i64 u.kind, .string ⟨u.s.toArray⟩, .slice ab u.args.length cb, .slice bl u.labels.length dl, .bool u.opn]), cellsR bT 28 #[.int .i64 t.kind, .string ⟨t.s.toArray⟩, .slice aa t.args.length ca, .slice al t.labels.length cl, .bool t.opn], tyR O t (.agg #[.int .i64 t.kind, .string ⟨t.s.toArray⟩, .slice aa t.args.length ca, .slice al t.labels.length cl, .bool t.opn])] := M13.del 2
   have HM14 := Tre.hid M14
   have y0 := M14.cell 2 rfl 0 rfl
   have y1 := M14.cell 2 rfl 1 rfl
   have y2 := M14.cell 2 rfl 2 rfl
   have y3 := M14.cell 2 rfl 3 rfl
   have y4 := M14.cell 2 rfl 4 rfl
   have z0 := M14.cell 4 rfl 0 rfl
   have z1 := M14.cell 4 rfl 1 rfl
   have z2 := M14.cell 4 rfl 2 rfl
   have z3 := M14.cell 4 rfl 3 rfl
   have z4 := M14.cell 4 rfl 4 rfl
   clear m12 M12 M13 M14 HP HM11 HTK
   go_upto_region 17 with fail
   try rw [hbW]
   clear hbW
   generalize hw14 : w12.alloc (.cells #[.int .i64 RT.kind, .string ⟨RT.s.toArray⟩, .slice aw RT.args.length cw, .slice lw RT.labels.length dw, .bool RT.opn] 28) = w14 at *
   clear hw14
   have M16 := (HM14.out.allocR #[.int .i64 u.kind, .string ⟨u.s.toArray⟩, .slice ab u.args.length cb, .slice bl u.labels.length dl, .bool u.opn, .int .i64 t.kind, .string ⟨t.s.toArray⟩, .slice aa t.args.length ca, .slice al t.labels.length cl, .bool t.opn] 28).allocR #[.int .i64 2, .string ⟨#[42]⟩, .slice (some ⟨w14.heap.size, 0, none⟩) 2 2, .slice none 0 0, .bool false] 28
   rw [World.size_alloc] at M16
   obtain ⟨bN, hbN⟩ : ∃ bN, w14.heap.size = bN := ⟨_, rfl⟩
   rw [hbN] at M16
   have HM16 := Tre.hid M16
   clear M16 HM14
   go_upto_region 18 with fail
   try rw [hbN]
   clear y0 y1 y2 y3 y4 z0 z1 z2 z3 z4
   generalize hw16 : (w14.alloc (.cells #[.int .i64 u.kind, .string ⟨u.s.toArray⟩, .slice ab u.args.length cb, .slice bl u.labels.length dl, .bool u.opn, .int .i64 t.kind, .string ⟨t.s.toArray⟩, .slice aa t.args.length ca, .slice al t.labels.length cl, .bool t.opn] 28)).alloc (.cells #[.int .i64 2, .string ⟨#[42]⟩, .slice (some ⟨bN, 0, none⟩) 2 2, .slice none 0 0, .bool false] 28) = w16 at *
   have p0 := HM16.out.cell 0 rfl 0 rfl
   have p1 := HM16.out.cell 0 rfl 1 rfl
   have p2 := HM16.out.cell 0 rfl 2 rfl
   have p3 := HM16.out.cell 0 rfl 3 rfl
   have p4 := HM16.out.cell 0 rfl 4 rfl
   have q0 := HM16.out.cell 2 rfl 0 rfl
   have q1 := HM16.out.cell 2 rfl 1 rfl
   have q2 := HM16.out.cell 2 rfl 2 rfl
   have q3 := HM16.out.cell 2 rfl 3 rfl
   have q4 := HM16.out.cell 2 rfl 4 rfl
   have r0 := HM16.out.cell 6 rfl 0 rfl
   have r1 := HM16.out.cell 6 rfl 1 rfl
   have r2 := HM16.out.cell 6 rfl 2 rfl
   have r3 := HM16.out.cell 6 rfl 3 rfl
   have r4 := HM16.out.cell 6 rfl 4 rfl
   clear hw16 hbN
   have M17 := HM16.out.allocR #[.int .i64 t.kind, .string ⟨t.s.toArray⟩, .slice aa t.args.length ca, .slice al t.labels.length cl, .bool t.opn, .int .i64 2, .string ⟨#[42]⟩, .slice (some ⟨bN, 0, none⟩) 2 2, .slice none 0 0, .bool false] 28
   have d1 : TyRd _ t (.agg #[.int .i64 t.kind, .string ⟨t.s.toArray⟩, .slice aa t.args.length ca, .slice al t.labels.length cl, .bool t.opn]) := (M17.at_ 8 rfl).1.rd
   have d2 : TyRd _ u (.agg #[.int .i64 u.kind, .string ⟨u.s.toArray⟩, .slice ab u.args.length cb, .slice bl u.labels.length dl, .bool u.opn]) := (M17.at_ 6 rfl).1.rd
   have d3 : TyRd _ RT (.agg #[.int .i64 RT.kind, .string ⟨RT.s.toArray⟩, .slice aw RT.args.length cw, .slice lw RT.labels.length dw, .bool RT.opn]) := (M17.at_ 4 rfl).1.rd
   have d4 := tyRd_two 2 d2 d1 rfl rfl (fun j x hx => M17.cell 2 rfl j hx)
   have d5 := tyRd_two 2 d1 d4 rfl rfl (fun j x hx => M17.cell 0 rfl j hx)
   have HS := Tre.hid (same_any 4194304 RT (rowTy 2 t u) _ _ _ HWR.out (by omega) d3 d5)
   have HM17 := Tre.hid M17
   clear M17 d1 d2 d3 d4 d5 HM16
   go_wp2_with fail
   refine HS.out.mono ?_
   rintro e w18 ⟨r9, rfl, hr9, b18⟩
   obtain rfl : r9 = true := hr9 HRT.out.symm
   have M18 := HM17.out.quiet b18
   have HM18 : Hid (Mem w w18 [cellsR bU 28 #[.int .i64 u.kind, .string ⟨u.s.toArray⟩, .slice ab u.args.length cb, .slice bl u.labels.length dl, .bool u.opn], tyR O2 u (.agg #[.int .i64 u.kind, .string ⟨u.s.toArray⟩, .slice ab u.args.length cb, .slice bl u.labels.length dl, .bool u.opn]), cellsR bT 28 #[.int .i64 t.kind, .string ⟨t.s.toArray⟩, .slice aa t.args.length ca, .slice al t.labels.length cl, .bool t.opn], tyR O t (.agg #[.int .i64 t.kind, .string ⟨t.s.toArray⟩, .slice aa t.args.length ca, .slice al t.labels.length cl, .bool t.opn])]) := ((((M18.del 0).del 0).del 0).del 0).del 0
   clear M18 b18 hr9 HS HM17 p0 p1 p2 p3 p4 q0 q1 q2 q3 q4 r0 r1 r2 r3 r4
   go_wp2_with fail
   go_roundw
   case rel => exact ⟨1 + 1, by omega, by go_num, HM18.out⟩
   case measure => simp [intOf]

  ·go_wp2_with fail
   go_ret
   exact ⟨rfl, hI.out.below⟩

end Go.Proofs.YtbafalfmgibnfaaGreatDoor.typ
namespace Go.Proofs.YtbafalfmgibnfaaGreatDoor.lex
open Go.ChangeShapes Go.WideShapes Go.RowKit Go.Tre
theorem envMax {w : World} (h : w.ShapedOpen Tryz.prog) : MaxAt w :=
 Go.Proofs.cell_of_shapedOpen_int (zero := #[.int .i64 0]) (t := 3) h (of_decide_eq_true (by kernel_rfl)) (by kernel_rfl) rfl (by kernel_rfl) (by kernel_rfl) Tryz.underlying3
def spaceTab : List Int := (List.range 256).map fun c => if spB (UInt8.ofNat c) = true then 1 else 0
theorem spaceData : (Rows.laid_strings_asciiSpace : DataW Unit) = Lib.tabData .u8 spaceTab := by kernel_rfl
theorem envSpace {W : World} {l : List (String × DataW Unit)} (h : laidMetH Tryz.prog l W) (e : l.filter (fun x => x.1 == "strings.asciiSpace") = [("strings.asciiSpace", Rows.laid_strings_asciiSpace)]) : SpaceAt W := by
 have h1 := laidMetH.filter (fun x => x.1 == "strings.asciiSpace") h
 rw [e, spaceData] at h1
 have h2 : Lib.TabIs Tryz.prog W "strings.asciiSpace" .u8 spaceTab :=
  Lib.tabIs_of_head (rest := []) (g := 1) (t := 160) (e := 5) (n := 256) (by kernel_rfl) (by kernel_rfl) Tryz.underlying160 Tryz.underlying5 (by kernel_rfl) (by kernel_rfl) h1
 intro c
 have hc := c.toNat_lt
 have h3 := h2.cell (g := 1) (by kernel_rfl) c.toNat (by unfold spaceTab; simp; omega)
 rw [h3]
 unfold spaceTab
 rw [List.getD_eq_getElem?_getD, List.getElem?_map, List.getElem?_range (by omega)]
 simp
theorem envRange {W : World} {l : List (String × DataW Unit)} (h : laidMetH Tryz.prog l W) (e : l.filter (fun x => x.1 == "strconv.ErrRange") = [("strconv.ErrRange", Rows.laid_strconv_ErrRange)]) : RangeAt W := by
 have h1 := laidMetH.filter (fun x => x.1 == "strconv.ErrRange") h
 rw [e] at h1
 have h2 : laidMet Tryz.prog [("strconv.ErrRange", Rows.laid_strconv_ErrRange)] W := h1
 obtain ⟨ps, ⟨g', t', cs, fuel, p, q, hg', ht', hvar, hd, _, _⟩, _⟩ := h2
 obtain rfl := Option.some.inj ((show Tryz.prog.globalNamed "strconv.ErrRange" = some 5 by kernel_rfl).symm.trans hg')
 obtain rfl := Option.some.inj ((show (Tryz.prog.globals[5]?).map (·.type) = some 59 by kernel_rfl).symm.trans ht')
 obtain ⟨f1, u, v, hcs, _, _⟩ := iface_of_trod Tryz.underlying59 hd
 refine ⟨u, v, ?_⟩
 have h3 := World.var?_cell hg' hvar 0
 have h4 : cs[0]? = some (.iface u v) := by rw [← Array.getElem?_toList, hcs]; rfl
 rw [h3, h4]
theorem errRows : ((List.range Tryz.prog.types.size).filter fun t => Tryz.prog.rowNamed t [101, 114, 114, 111, 114]) = [59] := by kernel_rfl
theorem envErr {W : World} {l : List (String × DataW Unit)} (h : laidMetH Tryz.prog l W) (e : l.filter (fun x => x.1 == "errors.errorType") = [("errors.errorType", Rows.laid_errors_errorType)]) : ErrT W := by
 have h1 := laidMetH.filter (fun x => x.1 == "errors.errorType") h
 rw [e] at h1
 have h' : laidMet Tryz.prog [] W ∧ handlesMet Tryz.prog [("errors.errorType", Rows.laid_errors_errorType)] W := h1
 obtain ⟨name, u, ty, e1, e2, e3, e4, e5⟩ := h'.2 _ (List.mem_singleton.2 rfl)
 have en : name = [101, 114, 114, 111, 114] := (Option.some.inj e1).symm
 subst en
 obtain rfl := Option.some.inj ((show (Tryz.prog.cutTypes.find? (·.1 == "internal/reflectlite.rtype")).map (·.2) = some 129 by kernel_rfl).symm.trans e2)
 have hm : ty ∈ (List.range Tryz.prog.types.size).filter fun t => Tryz.prog.rowNamed t [101, 114, 114, 111, 114] := List.mem_filter.2 ⟨List.mem_range.2 e3, e4⟩
 rw [errRows] at hm
 obtain rfl := List.mem_singleton.1 hm
 have hh : typeHandle Tryz.prog 59 = .pointer (some (rtA 59)) := by kernel_rfl
 rw [hh] at e5
 show W.cell? ⟨0, 0, none⟩ = _
 simpa using World.var?_cell (show Tryz.prog.globalNamed "errors.errorType" = some 0 by kernel_rfl) e5 0
theorem env_of {W : World} {l : List (String × DataW Unit)} (hsh : W.ShapedOpen Tryz.prog) (h : laidMetH Tryz.prog l W) (e1 : l.filter (fun x => x.1 == "strings.asciiSpace") = [("strings.asciiSpace", Rows.laid_strings_asciiSpace)])
  (e2 : l.filter (fun x => x.1 == "strconv.ErrRange") = [("strconv.ErrRange", Rows.laid_strconv_ErrRange)]) (e3 : l.filter (fun x => x.1 == "errors.errorType") = [("errors.errorType", Rows.laid_errors_errorType)]) : LexEnv W :=
 ⟨envMax hsh, envSpace h e1, envRange h e2, envErr h e3⟩
end Go.Proofs.YtbafalfmgibnfaaGreatDoor.lex
namespace Go.Tre
open Go.RowKit Go.ChangeShapes Go.Deep
theorem addr_plain {w : World} {a : Addr} {j : Nat} {u : Value} (h : w.cell? (a.add j) = some u) : (∃ b off, a = ⟨b, off, none⟩) ∨ 0 < j := by
 by_cases hj : j = 0
 ·subst hj
  left
  obtain ⟨b, off, s⟩ := a
  simp [Addr.add, World.cell?] at h
  split at h
  ·by_cases hs : s = none
   ·subst hs; exact ⟨_, _, rfl⟩
   ·have : s.isSome = true := Option.isSome_iff_ne_none.2 hs
    simp [this] at h
  ·cases h
 ·exact .inr (by omega)
theorem add_plain (b off j : Nat) : (⟨b, off, none⟩ : Addr).add j = ⟨b, off + j, none⟩ := by
 unfold Addr.add
 by_cases h : j = 0 <;> simp [h]
section
variable {P : Program} {H : Type} {enc : TypeId × Value → H} {w : World} {base : Nat} {sp : Nat → Bool} {held : Bool}
end
end Go.Tre
namespace Go.Proofs.YtbafalfmgibnfaaGreatDoor.gr
open Go.RowKit Go.Maps Go.Tre lex Go.ChangeShapes Go.Deep
set_option maxRecDepth 100000
theorem bulk_map {H : Type} (D : Nat → DataW H) (W : Nat → Nat) : ∀ (l : List Nat), (∀ i ∈ l, W i ≤ Rows.uptoBulk (D i)) → (l.map W).sum ≤ Rows.uptoBulkAll (l.map D)
 | [], _ => by simp
 | i :: r, h => by
  have h1 := h i (by simp)
  have h2 := bulk_map D W r (fun j hj => h j (by simp [hj]))
  simp only [List.map_cons, List.sum_cons, Rows.uptoBulkAll]
  omega
theorem bulk_pos {H : Type} (d : DataW H) : 1 ≤ Rows.uptoBulk d := by unfold Rows.uptoBulk; split <;> omega
end Go.Proofs.YtbafalfmgibnfaaGreatDoor.gr
