/- TypObjects: the walk. -/
import Derived.Test.YtbafalfmgibnfaaGreatDoorB23
import Derived.Test.YtbafalfmgibnfaaGreatDoorB24
import Derived.Test.YtbafalfmgibnfaaGreatDoorB25
import Derived.Test.YtbafalfmgibnfaaGreatDoorB20
import Derived.Test.YtbafalfmgibnfaaGreatDoorB29
set_option linter.unusedVariables false
namespace Go.Tre
open Go.RowKit Go.Maps
theorem MapIs.run_len3 {α β : Type} {P : Program} {k : TypeId} {ek : α → Value} {ev : β → Value} {w : World} {b n : Nat} {m : α → Option β} {t e : TypeId} (h : MapIs P k ek ev w b n m) (ht : P.underlying t = some (.map k e)) (ty : TypeId) :
  (Builtin.len_ #[t] ty #[.map (some b)]).run P w = .ok (.int .i64 n) w := by
 obtain ⟨es, clock, hb, hn, _⟩ := h
 simp [Builtin.len_, run_underlying ht, MapKept.run_getObj_map hb, hn, goInt]
end Go.Tre
namespace Go.Proofs.YtbafalfmgibnfaaGreatDoor.typ
open Go.RowKit Go.Shelf Go.Maps Go.Tre gr lex tree part
theorem zb (w : World) : (zeroValue 4).run Tryz.prog w = .ok (.bool false) w := by kernel_rfl
theorem verdict_or2 {t : Ty} (h : 0 ≤ walkT t) : verdictI (walkT t) = 0 ∨ verdictI (walkT t) = 4 := by
 unfold verdictI
 rw [if_neg (by omega)]
 split
 ·exact .inr rfl
 ·exact .inl rfl
set_option maxRecDepth 100000 in
set_option maxHeartbeats 16000000 in
theorem objectsLaw (a b : Option Addr) (ca0 cb0 : Nat) (l : List Prt) (ss : List ByteArray) (w : World) (hl : PrtsAt w a l) (hm : StrsAt w b ss) (hlen : l.length ≤ 1048576) (hlen2 : ss.length ≤ 1048576) (hsz : ∀ s ∈ ss, s.size ≤ 1048576) (hcap : l.length ≤ ca0) (E : LexEnv w) :
  Calls Tryz.prog 5 #[.slice a l.length ca0, .slice b ss.length cb0] w fun e w' => e = .returned (.bool true) ∧ Below w.heap.size w w' := by
 have HX := Tre.hid E.max
 have HPL := Tre.hid hl
 have HSS := Tre.hid hm
 have HSZ := Tre.hid hsz
 have HSL := Tre.hid hlen2
 have HA := Tre.hid (alive03 w E)
 have HENV := Tre.hid E
 clear E hl hm hsz hlen2
 go_enter Tryz.func5, Tryz.ntmps5
 go_wp2_with fail
 refine HA.out.mono ?_
 rintro e w1 ⟨rfl, b1⟩
 have HB1 := Tre.hid b1
 clear b1 HA
 go_wp2_with fail
 refine (great3_any a ca0 l _ (HPL.out.below HB1.out) hlen).mono ?_
 rintro e w2 ⟨rfl, b2⟩
 have HB2 := Tre.hid (HB1.out.trans (b2.mono HB1.out.size))
 clear b2 HB1
 cases hg : great3B l with
 | true =>
  clear hg
  go_wp2_with fail
  go_ret
  exact ⟨rfl, HB2.out⟩
 | false =>
 have hsm := great3_small hg
 have HWG : Hid ((ofTy l).weight ≤ 17004) := hsm.1
 clear hg hsm
 by_cases h20 : 20 < ss.length
 ·have i20 : (20 : Int) < (ss.length : Int) := by omega
  clear h20
  go_wp2_with fail
  go_ret
  exact ⟨rfl, HB2.out⟩
 have i20 : ¬ (20 : Int) < (ss.length : Int) := by omega
 have H20 : Hid (ss.length ≤ 20) := by show _ ≤ _; omega
 clear h20
 have HOF := Tre.hid (of_any w (l.length + 1) l a ca0 w2 HB2.out (Nat.lt_succ_self _) hlen hcap HPL.out)
 go_wp2_with fail
 refine HOF.out.mono ?_
 rintro e w3 ⟨O, aa, al, ca, cl, a', c', rfl, _, _, m3⟩
 have hty : (ofP (l.length + 1) l).1 = ofTy l := rfl
 rw [hty] at m3 ⊢
 obtain ⟨t, ht⟩ : ∃ t, ofTy l = t := ⟨_, rfl⟩
 rw [ht] at m3 HWG ⊢
 have M3 := (Mem.of_below HB2.out).call m3
 have M4 := M3.allocR #[.int .i64 t.kind, .string ⟨t.s.toArray⟩, .slice aa t.args.length ca, .slice al t.labels.length cl, .bool t.opn] 28
 obtain ⟨bT, hbT⟩ : ∃ bT, w3.heap.size = bT := ⟨_, rfl⟩
 rw [hbT] at M4
 have HM4 : Hid (Mem w (w3.alloc (.cells #[.int .i64 t.kind, .string ⟨t.s.toArray⟩, .slice aa t.args.length ca, .slice al t.labels.length cl, .bool t.opn] 28)) [cellsR bT 28 #[.int .i64 t.kind, .string ⟨t.s.toArray⟩, .slice aa t.args.length ca, .slice al t.labels.length cl, .bool t.opn], tyR O t (.agg #[.int .i64 t.kind, .string ⟨t.s.toArray⟩, .slice aa t.args.length ca, .slice al t.labels.length cl, .bool t.opn])]) := M4
 have x0 := HM4.out.cell 0 rfl 0 rfl
 have x1 := HM4.out.cell 0 rfl 1 rfl
 have x2 := HM4.out.cell 0 rfl 2 rfl
 have x3 := HM4.out.cell 0 rfl 3 rfl
 have x4 := HM4.out.cell 0 rfl 4 rfl
 clear HOF hty ht m3 M3 M4 HB2
 generalize (ofP (l.length + 1) l).2 = rest at *
 go_wp2_with fail
 try rw [hbT]
 clear hbT i20
 generalize hw4 : w3.alloc (.cells #[.int .i64 t.kind, .string ⟨t.s.toArray⟩, .slice aa t.args.length ca, .slice al t.labels.length cl, .bool t.opn] 28) = w4 at *
 clear hw4
 have HPT := Tre.hid (Put_any t _ w4 (HM4.out.at_ 1 rfl).1.rd (by have := HWG.out; omega) (HX.out.below HM4.out.below))
 obtain ⟨vd, hvd⟩ : ∃ vd, verdictI (walkT t) = vd := ⟨_, rfl⟩
 rw [hvd] at HPT
 obtain ⟨pa, hpa⟩ : ∃ pa, (if vd = 0 then putS t else []) = pa := ⟨_, rfl⟩
 rw [hpa] at HPT
 refine HPT.out.mono ?_
 rintro e w7 ⟨rfl, b7⟩
 have HVD := Tre.hid hvd
 have HPA := Tre.hid hpa
 have HM7 := Tre.hid (HM4.out.quiet b7)
 clear b7 HPT HM4 hvd hpa x0 x1 x2 x3 x4
 by_cases hv0 : vd = 0
 rotate_left
 ·have e0 : (vd == 0) = false := by simpa using hv0
  have HB := Tre.hid HM7.out.below
  clear HM7
  go_wp2_with fail
  go_ret
  exact ⟨rfl, HB.out⟩
 subst hv0
 have hlp := HPA.out
 rw [if_pos rfl] at hlp
 have HTP := Tre.hid hlp
 have t0 := fine_walk HVD.out
 have HFT := Tre.hid (fine_of _ t (Nat.le_refl _) t0)
 have HT0 := Tre.hid t0
 have hla : pa.length ≤ 340080 := by
  have h := spT_len HFT.out 0 false
  have h2 := HWG.out
  rw [← hlp]
  exact Nat.le_trans h (by omega)
 clear hlp t0 HPA HVD
 by_cases hbig : 1000 < pa.length
 ·have hb2 : (1000 : Int) < (pa.length : Int) := by omega
  have HB := Tre.hid HM7.out.below
  clear hbig HM7
  go_wp2_with fail
  go_ret
  exact ⟨rfl, HB.out⟩
 have hb2 : ¬ ((1000 : Int) < (pa.length : Int)) := by omega
 have HPN : Hid (pa.length ≤ 1000) := by show _ ≤ _; omega
 have hmk0 : ∀ (w : World), (Instr.makeMap 44 none).run Tryz.prog w = .ok (.map (some w.heap.size)) (w.alloc (.map #[] 0)) := fun w => by
  simp [Instr.makeMap, newObj]; rfl
 have M8 := HM7.out.allocMap Tryz.prog 9 Value.string Value.bool
 obtain ⟨bM, hbM⟩ : ∃ bM, w7.heap.size = bM := ⟨_, rfl⟩
 rw [hbM] at M8
 have HM8 := Tre.hid M8
 clear M8 HM7 hbig hla
 go_wp2_with fail
 try rw [hbM]
 clear hmk0 hbM hb2
 generalize hw8 : w7.alloc (.map #[] 0) = w8 at *
 clear hw8
 go_loopw [9, 11, 51] (fun v9 v11 v51 wr => ∃ (k N : Nat) (tx : ByteArray) (tb : Bool), k ≤ ss.length ∧ v9 = .string tx ∧ v11 = .bool tb ∧ v51 = .int .i64 k ∧ Hid (ObjsUp pa (ss.take k) N tx tb) ∧ Hid (Mem w wr [mapR Tryz.prog 9 Value.string Value.bool bM N (metM (ss.take k)), cellsR bT 28 #[.int .i64 t.kind, .string ⟨t.s.toArray⟩, .slice aa t.args.length ca, .slice al t.labels.length cl, .bool t.opn], tyR O t (.agg #[.int .i64 t.kind, .string ⟨t.s.toArray⟩, .slice aa t.args.length ca, .slice al t.labels.length cl, .bool t.opn])])) (fun _ _ v51 _ => ss.length - (intOf v51).toNat)
 case atStart =>
  exact ⟨0, 0, _, _, Nat.zero_le _, rfl, rfl, rfl, ObjsUp.nil pa, HM8.out⟩
 case round =>
  clear HM8
  obtain ⟨k, N, tx, tb, hk, rfl, rfl, rfl, HU, HM⟩ := hrel
  by_cases hlt : k < ss.length
  ·obtain ⟨bb, ob, rfl, hc⟩ := HSS.out.at_ k (.string ss[k]) (by simp [List.getElem?_eq_getElem hlt])
   have hc2 : wr.cell? ⟨bb, ob + k, none⟩ = some (.string ss[k]) := cell_below HM.out.below hc
   have hs1 := HSZ.out _ (List.getElem_mem hlt)
   have HTK : Hid (ss.take (k + 1) = ss.take k ++ [ss[k]]) := by show _ = _; rw [List.take_add_one, List.getElem?_eq_getElem hlt]; rfl
   have HLK : Hid ((ss.take k).length = k) := by show _ = _; rw [List.length_take]; omega
   generalize ss[k] = s at *
   obtain ⟨done, hdn⟩ : ∃ d, ss.take k = d := ⟨_, rfl⟩
   rw [hdn] at HTK HLK HU HM
   have HDN := Tre.hid hdn
   have l1 : (0 : Int) ≤ (k : Int) := by omega
   have l2 : (k : Int) < (ss.length : Int) := by omega
   clear hc hdn
   go_wp2_with fail
   refine (lex.isName_any s _ (by omega) (HX.out.below HM.out.below)).mono ?_
   rintro e w9 ⟨rfl, rfl⟩
   cases hn : isName s with
   | false =>
    clear hn hs1 l1 l2
    go_wp2_with fail
    go_ret
    exact ⟨rfl, HM.out.below⟩
   | true =>
    have hs2 := name_few hn
    have HN := Tre.hid hn
    have hts := HU.out.size
    have hpn := HPN.out
    have h20 := H20.out
    rw [HLK.out] at hts
    have hts2 : tx.size ≤ 22162 := Nat.le_trans hts (Nat.le_trans (Nat.add_le_add_left (Nat.mul_le_mul (show k ≤ 20 by omega) (show pa.length + 108 ≤ 1108 by omega)) 2) (by decide))
    have hlk := (HM.out.map 0 rfl).run_look (t := 44) K inj Tryz.underlying44 (zb _) (ky s (by unfold maxLen; omega))
    rw [met_look] at hlk
    have hc1 : ¬ (9223372036854775807 < s.size + 4) := by omega
    have hc3 : ¬ (9223372036854775807 < s.size + 4 + pa.length) := by omega
    have hc4 : ¬ (9223372036854775807 < s.size + 4 + pa.length + 4) := by omega
    have hc5 : ¬ (9223372036854775807 < tx.size + (s.size + 4 + pa.length + 4)) := by omega
    have HUS := Tre.hid (HU.out.snoc HN.out)
    obtain ⟨hb, hhb⟩ : ∃ x, hasB done s = x := ⟨_, rfl⟩
    rw [hhb] at hlk HUS
    have hkk : s.size ≤ maxLen := by unfold maxLen; omega
    clear hn hs1 hts hpn h20 hhb hts2
    cases tb with
    | true =>
     go_wp2_with (refine wpList_store rfl _ _ _ 44 (.inl rfl) 4 K inj Tryz.underlying44 rfl (HM.out.map 0 rfl) s rfl (ky s hkk) true rfl ?_; intro w2 hm2 hg2; have M3 := HM.out.put 0 rfl hg2 hm2; have HM3 := Tre.hid M3; clear M3 hm2 hg2)
     go_roundw
     case rel => exact ⟨k + 1, _, _, _, by omega, rfl, rfl, by go_num, by rw [HTK.out]; exact HUS.out, by rw [HTK.out, ← met_snoc]; exact HM3.out⟩
     case measure => simp [intOf]; omega
    | false =>
     go_wp2_with (refine wpList_store rfl _ _ _ 44 (.inl rfl) 4 K inj Tryz.underlying44 rfl (HM.out.map 0 rfl) s rfl (ky s hkk) true rfl ?_; intro w2 hm2 hg2; have M3 := HM.out.put 0 rfl hg2 hm2; have HM3 := Tre.hid M3; clear M3 hm2 hg2)
     go_roundw
     case rel => exact ⟨k + 1, _, _, _, by omega, rfl, rfl, by go_num, by rw [HTK.out]; exact HUS.out, by rw [HTK.out, ← met_snoc]; exact HM3.out⟩
     case measure => simp [intOf]; omega
  ·have e : k = ss.length := by omega
   subst e
   rw [List.take_length] at HU HM
   have hsz4 : tx.size ≤ 22162 := Nat.le_trans HU.out.size (Nat.le_trans (Nat.add_le_add_left (Nat.mul_le_mul H20.out (show pa.length + 108 ≤ 1108 by have := HPN.out; omega)) 2) (by decide))
   have hc6 : ¬ (9223372036854775807 < tx.size + 4) := by omega
   have HTXT : Hid ((tx ++ (⟨#[46, 46, 32, 62]⟩ : ByteArray)).data.toList = [60, 32] ++ fldsText pa (ss.map lstB) ++ [46, 46, 32, 62]) := by
    show _ = _
    rw [ByteArray.data_append, Array.toList_append, HU.out.text]
   have htz : (tx ++ (⟨#[46, 46, 32, 62]⟩ : ByteArray)).size ≤ 22170 := by rw [ByteArray.size_append]; show tx.size + 4 ≤ _; omega
   have hok := flds_ok HFT.out (ss := ss.map lstB) (fun s hs => by
    obtain ⟨x, hx, rfl⟩ := List.mem_map.1 hs
    exact HU.out.names x hx)
   have hgo := obj_goods hok
   have hse := objs_spell t (ss.map lstB)
   rw [HTP.out, ← HTXT.out] at hse
   have HIN := Tre.hid (ins_of t (ss.map lstB) [] [] List.Pairwise.nil rfl)
   have hlx := lex.Lex (tx ++ (⟨#[46, 46, 32, 62]⟩ : ByteArray)) wr (by omega) (HENV.out.below HM.out.below)
   have hle : (spell (objSp (fldsOf t (ss.map lstB)) false)).length = (tx ++ (⟨#[46, 46, 32, 62]⟩ : ByteArray)).size := by rw [hse]; rfl
   rw [← hse, lexS_spell hgo (by omega)] at hlx
   have HPF := Tre.hid (fun h => obj_fails hok h (spell (objSp (fldsOf t (ss.map lstB)) false)).length)
   have HPO : Hid (∀ L A, insAll (fldsOf t (ss.map lstB)) [] [] = some (L, A) → ∃ K, ∀ k, K ≤ k → pLev (toksOf (spell (objSp (fldsOf t (ss.map lstB)) false)).length (objSp (fldsOf t (ss.map lstB)) false)) k 0 0 = some (.mk 3 [] A L true, (objSp (fldsOf t (ss.map lstB)) false).length)) := fun L A h => prs_text (n := 3) (.inr (.inr rfl)) (obj_prs hok h) _
   obtain ⟨q, hq, hq1, hq2⟩ := obj_first (spell (objSp (fldsOf t (ss.map lstB)) false)).length (fldsOf t (ss.map lstB))
   have hix := toks_idx (spell (objSp (fldsOf t (ss.map lstB)) false)).length hgo
   have hln := toksOf_len (spell (objSp (fldsOf t (ss.map lstB)) false)).length (objSp (fldsOf t (ss.map lstB)) false)
   have hll : (toksOf (spell (objSp (fldsOf t (ss.map lstB)) false)).length (objSp (fldsOf t (ss.map lstB)) false)).length ≤ 4194304 := by
    have h := spell_long hgo
    omega
   have hsl : 1 ≤ (objSp (fldsOf t (ss.map lstB)) false).length := by unfold objSp; simp
   have HNM : Hid (∀ s ∈ ss.map lstB, isName ⟨s.toArray⟩ = true) := fun s hs => by
    obtain ⟨x, hx, rfl⟩ := List.mem_map.1 hs
    exact HU.out.names x hx
   generalize (spell (objSp (fldsOf t (ss.map lstB)) false)).length = NN at *
   obtain ⟨TS, hTS⟩ : ∃ x, toksOf NN (objSp (fldsOf t (ss.map lstB)) false) = x := ⟨_, rfl⟩
   rw [hTS] at hlx hix hln hll hq HPF HPO
   have HLX := Tre.hid hlx
   have HIX : Hid (idxFunc noEnd TS = ((TS.length - 1 : Nat) : Int)) := hix
   have HLN := Tre.hid hln
   have HLL := Tre.hid hll
   have HQ := Tre.hid hq
   have HQ1 := Tre.hid hq1
   have HQ2 := Tre.hid hq2
   generalize (objSp (fldsOf t (ss.map lstB)) false).length = nL at *
   have HSL := Tre.hid hsl
   clear hok hgo hse hle hlx hq hq1 hq2 hix hln hll hsl hTS htz hsz4 HTXT
   go_wp2_with fail
   refine HLX.out.mono ?_
   intro e w11 hp
   rcases hp with ⟨ts, v, hts, rfl, m11⟩ | ⟨hd, _⟩
   rotate_left
   ·cases hd
   cases hts
   have M11 := HM.out.call m11
   obtain ⟨at_, ct, rfl, _⟩ := M11.val 0 rfl
   have HTK := Tre.hid (toks_of M11 0 rfl rfl)
   have HM11 := Tre.hid M11
   clear m11 M11 HLX HM hc6
   rcases HIN.out with ⟨hnd, hno⟩ | ⟨hnd, L, hso, hri, hpm⟩
   ·obtain ⟨kf, hkf, hnk⟩ := HPF.out hno
    have htb : tb = true := by rw [HU.out.dup, dup_lst]; exact hnd
    subst htb
    have HP := Tre.hid (Parse_twice at_ ct TS kf w11 HTK.out HLL.out (by have h1 := HLN.out; have h2 := HSL.out; omega) HIX.out (HENV.out.below HM11.out.below).et q HQ.out HQ1.out HQ2.out hnk hkf)
    clear hnd hno hkf hnk HIN HPF HPO
    go_wp2_with fail
    refine HP.out.mono ?_
    rintro e w12 ⟨pl, rfl, b12⟩
    have HM13 := Tre.hid ((HM11.out.quiet b12).allocR #[.int .i64 0, .string ⟨#[]⟩, .slice none 0 0, .slice none 0 0, .bool false] 28).below
    clear b12 HP HM11
    go_wp2_with fail
    go_ret
    exact ⟨rfl, HM13.out⟩
   rw [List.nil_append] at hnd hpm
   have htb : tb = false := by
    cases tb with
    | false => rfl
    | true => exact absurd hnd (dup_lst ss |>.1 HU.out.dup.symm)
   subst htb
   have hN : N = L.length := by rw [HU.out.cnt HU.out.dup.symm, ← hpm.length_eq, List.length_map]
   subst hN
   obtain ⟨K1, hK⟩ := HPO.out L _ hso
   have hK1 : pLev TS K1 0 0 = some (objTy t L, nL) := hK K1 (Nat.le_refl _)
   have hnm : ∀ s ∈ L, isName ⟨s.toArray⟩ = true := fun s hs => HNM.out s (hpm.mem_iff.2 hs)
   have hwk := objTy_walk HT0.out hri hnm
   have hLl : L.length ≤ 20 := by rw [← hpm.length_eq, List.length_map]; exact H20.out
   have hww : (objTy t L).weight ≤ 4194304 := by
    refine Nat.le_trans (objTy_weight t L (fun s hs => name_few (hnm s hs))) ?_
    have h1 := HWG.out
    have h2 := Nat.mul_le_mul hLl h1
    omega
   have HMEM : Hid (∀ s ∈ L, hasB ss ⟨s.toArray⟩ = true) := fun s hs => by
    obtain ⟨x, hx, e⟩ := List.mem_map.1 (hpm.mem_iff.2 hs)
    rw [has_iff, ← e]
    exact hx
   have HRI := Tre.hid hri
   have HK1 := Tre.hid hK1
   have HWW := Tre.hid hww
   have HLl := Tre.hid hLl
   have hnn := HLN.out
   have hwl : IntKind.i64.wrap ((TS.length : Int) - 1) = (nL : Int) := by rw [IntWalk.i64_in _ (by have := HLL.out; omega)]; omega
   have hvr := verdict_or2 hwk
   have HNMS := Tre.hid hnm
   clear hnd hso hri hpm hK hK1 hnm hwk hLl hww HIN HPF HPO HNM HQ HQ1 HQ2
   rcases hvr with hv | hv
   rotate_left
   ·have HP := Tre.hid (Parse_deep at_ ct TS 0 K1 nL (objTy t L) w11 HTK.out HLL.out (by omega) HIX.out (by omega) HK1.out hv HWW.out (HX.out.below HM11.out.below))
    clear hv hnn hwl
    go_wp2_with fail
    refine HP.out.mono ?_
    rintro e w12 ⟨rfl, b12⟩
    have HM13 := Tre.hid ((HM11.out.quiet b12).allocR #[.int .i64 0, .string ⟨#[]⟩, .slice none 0 0, .slice none 0 0, .bool false] 28).below
    clear b12 HP HM11
    go_wp2_with fail
    go_ret
    exact ⟨rfl, HM13.out⟩
   have HP := Tre.hid (Parse_obj at_ ct TS K1 nL t L w11 HTK.out HLL.out (by omega) HIX.out HK1.out hv HWW.out (HX.out.below HM11.out.below))
   clear hv hnn
   go_wp2_with fail
   refine HP.out.mono ?_
   rintro e w12 ⟨OW, aw, cw, lw, dw, rfl, m12⟩
   have M12 := (HM11.out.call m12).allocR #[.int .i64 3, .string ⟨#[]⟩, .slice aw L.length cw, .slice lw L.length dw, .bool true] 28
   obtain ⟨bW, hbW⟩ : ∃ bW, w12.heap.size = bW := ⟨_, rfl⟩
   rw [hbW] at M12
   have HM14 : Hid (Mem w (w12.alloc (.cells #[.int .i64 3, .string ⟨#[]⟩, .slice aw L.length cw, .slice lw L.length dw, .bool true] 28)) [cellsR bW 28 #[.int .i64 3, .string ⟨#[]⟩, .slice aw L.length cw, .slice lw L.length dw, .bool true], tyR OW (objTy t L) (.agg #[.int .i64 3, .string ⟨#[]⟩, .slice aw L.length cw, .slice lw L.length dw, .bool true]), mapR Tryz.prog 9 Value.string Value.bool bM L.length (metM ss), cellsR bT 28 #[.int .i64 t.kind, .string ⟨t.s.toArray⟩, .slice aa t.args.length ca, .slice al t.labels.length cl, .bool t.opn], tyR O t (.agg #[.int .i64 t.kind, .string ⟨t.s.toArray⟩, .slice aa t.args.length ca, .slice al t.labels.length cl, .bool t.opn])]) := M12.del 2
   clear m12 M12 HP HM11 HTK
   go_upto_region 27 with fail
   try rw [hbW]
   clear hbW
   generalize hw14 : w12.alloc (.cells #[.int .i64 3, .string ⟨#[]⟩, .slice aw L.length cw, .slice lw L.length dw, .bool true] 28) = w14 at *
   clear hw14
   have p0 := HM14.out.cell 0 rfl 0 rfl
   have p1 := HM14.out.cell 0 rfl 1 rfl
   have p2 := HM14.out.cell 0 rfl 2 rfl
   have p3 := HM14.out.cell 0 rfl 3 rfl
   have p4 := HM14.out.cell 0 rfl 4 rfl
   have hml : ∀ ty, (Builtin.len_ #[44] ty #[.map (some bM)]).run Tryz.prog w14 = .ok (.int .i64 L.length) w14 := fun ty => MapIs.run_len3 (HM14.out.map 2 rfl) Tryz.underlying44 ty
   go_wp2_with fail
   clear hml hwl p0 p1 p2 p3 p4
   go_loopw [117] (fun v117 wx => ∃ k : Nat, k ≤ L.length ∧ v117 = .int .i64 k ∧ Hid (Mem w wx [cellsR bW 28 #[.int .i64 3, .string ⟨#[]⟩, .slice aw L.length cw, .slice lw L.length dw, .bool true], tyR OW (objTy t L) (.agg #[.int .i64 3, .string ⟨#[]⟩, .slice aw L.length cw, .slice lw L.length dw, .bool true]), mapR Tryz.prog 9 Value.string Value.bool bM L.length (metM ss), cellsR bT 28 #[.int .i64 t.kind, .string ⟨t.s.toArray⟩, .slice aa t.args.length ca, .slice al t.labels.length cl, .bool t.opn], tyR O t (.agg #[.int .i64 t.kind, .string ⟨t.s.toArray⟩, .slice aa t.args.length ca, .slice al t.labels.length cl, .bool t.opn])])) (fun v117 _ => L.length - (intOf v117).toNat)
   case atStart => exact ⟨0, Nat.zero_le _, rfl, HM14.out⟩
   case round =>
    clear HM14
    obtain ⟨k, hk, rfl, HI⟩ := hrel
    by_cases hlt : k < L.length
    ·skip
     have hrd := obj_rd (HI.out.at_ 1 rfl).1.rd
     obtain ⟨bl, ol, rfl, c1⟩ := hrd.1 k L[k] (List.getElem?_eq_getElem hlt)
     obtain ⟨ba, oa, a2, c2, l2, d2, rfl, k5, t5⟩ := hrd.2 k hlt
     have HME := Tre.hid (HMEM.out _ (List.getElem_mem hlt))
     have hks := name_few (HNMS.out _ (List.getElem_mem hlt))
     have i1 : (0 : Int) ≤ (k : Int) := by omega
     have i2 : (k : Int) < (L.length : Int) := by omega
     have z0 : wr.cell? ⟨ba, oa + k * 5, none⟩ = some (.int .i64 t.kind) := k5 0 _ rfl
     have z1 : wr.cell? ⟨ba, oa + k * 5 + 1, none⟩ = some (.string ⟨t.s.toArray⟩) := k5 1 _ rfl
     have z2 : wr.cell? ⟨ba, oa + k * 5 + 2, none⟩ = some (.slice a2 t.args.length c2) := k5 2 _ rfl
     have z3 : wr.cell? ⟨ba, oa + k * 5 + 3, none⟩ = some (.slice l2 t.labels.length d2) := k5 3 _ rfl
     have z4 : wr.cell? ⟨ba, oa + k * 5 + 4, none⟩ = some (.bool t.opn) := k5 4 _ rfl
     have p0 := HI.out.cell 0 rfl 0 rfl
     have p1 := HI.out.cell 0 rfl 1 rfl
     have p2 := HI.out.cell 0 rfl 2 rfl
     have p3 := HI.out.cell 0 rfl 3 rfl
     have p4 := HI.out.cell 0 rfl 4 rfl
     have r0 := HI.out.cell 3 rfl 0 rfl
     have r1 := HI.out.cell 3 rfl 1 rfl
     have r2 := HI.out.cell 3 rfl 2 rfl
     have r3 := HI.out.cell 3 rfl 3 rfl
     have r4 := HI.out.cell 3 rfl 4 rfl
     have hmm : (metM ss ⟨L[k].toArray⟩) = some true := by unfold metM; rw [HME.out]; rfl
     have HLK : Hid (∀ W : World, Mem w W [cellsR bW 28 #[.int .i64 3, .string ⟨#[]⟩, .slice (some ⟨ba, oa, none⟩) L.length cw, .slice (some ⟨bl, ol, none⟩) L.length dw, .bool true], tyR OW (objTy t L) (.agg #[.int .i64 3, .string ⟨#[]⟩, .slice (some ⟨ba, oa, none⟩) L.length cw, .slice (some ⟨bl, ol, none⟩) L.length dw, .bool true]), mapR Tryz.prog 9 Value.string Value.bool bM L.length (metM ss), cellsR bT 28 #[.int .i64 t.kind, .string ⟨t.s.toArray⟩, .slice aa t.args.length ca, .slice al t.labels.length cl, .bool t.opn], tyR O t (.agg #[.int .i64 t.kind, .string ⟨t.s.toArray⟩, .slice aa t.args.length ca, .slice al t.labels.length cl, .bool t.opn])] → (Instr.lookup 44 (.map (some bM)) (.string ⟨L[k].toArray⟩) false).run Tryz.prog W = .ok (.bool true) W) := fun W hW => by
      have h := (hW.map 2 rfl).run_look (t := 44) K inj Tryz.underlying44 (zb _) (ky ⟨L[k].toArray⟩ (by show L[k].length ≤ maxLen; unfold maxLen; have : L[k].length ≤ 100 := hks; omega))
      rw [hmm] at h
      exact h
     have hlk := HLK.out _ HI.out
     have HSM : Hid (∀ W, Below wr.heap.size wr W → STy t t (.agg #[.int .i64 t.kind, .string ⟨t.s.toArray⟩, .slice a2 t.args.length c2, .slice l2 t.labels.length d2, .bool t.opn]) (.agg #[.int .i64 t.kind, .string ⟨t.s.toArray⟩, .slice aa t.args.length ca, .slice al t.labels.length cl, .bool t.opn]) W) := fun W hW => same_any 4194304 t t _ _ _ (by have := HWG.out; omega) (by omega) (t5.after hW) ((HI.out.at_ 4 rfl).1.rd.after hW)
     have HLE : Hid (∀ j, j + 1 = k → ∃ x, L[j]? = some x ∧ lessS x L[k] = true) := fun j hj => ⟨L[j], List.getElem?_eq_getElem (by omega), List.pairwise_iff_getElem.1 HRI.out j k (by omega) hlt (by omega)⟩
     have HC1 := Tre.hid hrd.1
     generalize L[k] = s at *
     clear hrd hks hmm k5 t5
     by_cases hk0 : k = 0
     ·have e0 : ¬ (0 : Int) < (k : Int) := by omega
      have hkn : ¬ 0 < k := by omega
      clear HLE HC1 hk0
      go_upto_region 32 with fail
      clear c1
      have cS : Cond (fun w' => (Instr.lookup 44 (.map (some bM)) (.string ⟨s.toArray⟩) false).run Tryz.prog w' = .ok (.bool true) w' ∧ w'.cell? ⟨bW, 2, none⟩ = some (.slice (some ⟨ba, oa, none⟩) L.length cw) ∧ w'.cell? ⟨bW, 3, none⟩ = some (.slice (some ⟨bl, ol, none⟩) L.length dw) ∧ w'.cell? ⟨ba, oa + k * 5, none⟩ = some (.int .i64 t.kind) ∧ w'.cell? ⟨ba, oa + k * 5 + 1, none⟩ = some (.string ⟨t.s.toArray⟩) ∧ w'.cell? ⟨ba, oa + k * 5 + 2, none⟩ = some (.slice a2 t.args.length c2) ∧ w'.cell? ⟨ba, oa + k * 5 + 3, none⟩ = some (.slice l2 t.labels.length d2) ∧ w'.cell? ⟨ba, oa + k * 5 + 4, none⟩ = some (.bool t.opn) ∧ w'.cell? ⟨bT, 0, none⟩ = some (.int .i64 t.kind) ∧ w'.cell? ⟨bT, 1, none⟩ = some (.string ⟨t.s.toArray⟩) ∧ w'.cell? ⟨bT, 2, none⟩ = some (.slice aa t.args.length ca) ∧ w'.cell? ⟨bT, 3, none⟩ = some (.slice al t.labels.length cl) ∧ w'.cell? ⟨bT, 4, none⟩ = some (.bool t.opn)) := ⟨⟩
      refine cS.keep [] ?_ (fun hH0 => ?_)
      ·exact ⟨HLK.out _ HI.out.drew, p2, p3, z0, z1, z2, z3, z4, r0, r1, r2, r3, r4⟩
      have H0 := Tre.hid HI.out.drew
      have HB0 : Hid (Below wr.heap.size wr wr.drew) := (Below.refl _ _).drew
      generalize hq : World.drew _ = wq0 at H0 HB0 hH0 ⊢
      clear hq HI hlk p0 p1 p2 p3 p4 z0 z1 z2 z3 z4 r0 r1 r2 r3 r4
      refine lPq 0 (some 122) (v := ?_) rfl ?_ (keep_of hH0) ?_
      rotate_left
      ·intro w; go_simp <;> with_reducible rfl
      try simp only [Act.put, zqf, zqg, zqh]
      refine lPq 1 (some 123) (v := ?_) rfl ?_ (keep_of hH0) ?_
      rotate_left
      ·intro w; go_simp <;> with_reducible rfl
      try simp only [Act.put, zqf, zqg, zqh]
      refine lTq 2 (some 124) (v := ?_) rfl ?_ hH0 ?_
      rotate_left
      ·intro w hSw; (try dsimp only at hSw); go_simp <;> with_reducible rfl
      try simp only [Act.put, zqf, zqg, zqh]
      refine lPq 3 (some 125) (v := ?_) rfl ?_ (keep_of hH0) ?_
      rotate_left
      ·intro w; go_simp <;> with_reducible rfl
      try simp only [Act.put, zqf, zqg, zqh]
      refine lPq 4 (some 126) (v := ?_) rfl ?_ (keep_of hH0) ?_
      rotate_left
      ·intro w; go_simp <;> with_reducible rfl
      try simp only [Act.put, zqf, zqg, zqh]
      refine lPq 5 (some 127) (v := ?_) rfl ?_ (keep_of hH0) ?_
      rotate_left
      ·intro w; go_simp <;> with_reducible rfl
      try simp only [Act.put, zqf, zqg, zqh]
      refine lPq 6 (some 128) (v := ?_) rfl ?_ (keep_of hH0) ?_
      rotate_left
      ·intro w; go_simp <;> with_reducible rfl
      try simp only [Act.put, zqf, zqg, zqh]
      refine lPq 7 (some 129) (v := ?_) rfl ?_ (keep_of hH0) ?_
      rotate_left
      ·intro w; go_simp <;> with_reducible rfl
      try simp only [Act.put, zqf, zqg, zqh]
      refine lPureNo (i := 8) (some 130) (by rfl) (by kernel_rfl) (by kernel_rfl) (by kernel_rfl) (by kernel_rfl) (fun _ _ _ h => h) (by rfl) (keep_of hH0) ?_
      try simp only [Act.put, zqf, zqg, zqh]
      refine lPureNo (i := 9) (some 131) (by rfl) (by kernel_rfl) (by kernel_rfl) (by kernel_rfl) (by kernel_rfl) (fun _ _ _ h => h) (by rfl) (keep_of hH0) ?_
      try simp only [Act.put, zqf, zqg, zqh]
      refine lPureNo (i := 10) (some 132) (by rfl) (by kernel_rfl) (by kernel_rfl) (by kernel_rfl) (by kernel_rfl) (fun _ _ _ h => h) (by rfl) (keep_of hH0) ?_
      try simp only [Act.put, zqf, zqg, zqh]
      refine lPureNo (i := 11) (some 133) (by rfl) (by kernel_rfl) (by kernel_rfl) (by kernel_rfl) (by kernel_rfl) (fun _ _ _ h => h) (by rfl) (keep_of hH0) ?_
      try simp only [Act.put, zqf, zqg, zqh]
      refine lPureNo (i := 12) (some 134) (by rfl) (by kernel_rfl) (by kernel_rfl) (by kernel_rfl) (by kernel_rfl) (fun _ _ _ h => h) (by rfl) (keep_of hH0) ?_
      try simp only [Act.put, zqf, zqg, zqh]
      refine lPureNo (i := 13) (some 135) (by rfl) (by kernel_rfl) (by kernel_rfl) (by kernel_rfl) (by kernel_rfl) (fun _ _ _ h => h) (by rfl) (keep_of hH0) ?_
      try simp only [Act.put, zqf, zqg, zqh]
      refine lPureNo (i := 14) (some 136) (by rfl) (by kernel_rfl) (by kernel_rfl) (by kernel_rfl) (by kernel_rfl) (fun _ _ _ h => h) (by rfl) (keep_of hH0) ?_
      try simp only [Act.put, zqf, zqg, zqh]
      refine lPureNo (i := 15) (some 137) (by rfl) (by kernel_rfl) (by kernel_rfl) (by kernel_rfl) (by kernel_rfl) (fun _ _ _ h => h) (by rfl) (keep_of hH0) ?_
      try simp only [Act.put, zqf, zqg, zqh]
      refine lPq 16 (some 138) (v := ?_) rfl ?_ (keep_of hH0) ?_
      rotate_left
      ·intro w; go_simp <;> with_reducible rfl
      try simp only [Act.put, zqf, zqg, zqh]
      refine lPq 17 (some 139) (v := ?_) rfl ?_ (keep_of hH0) ?_
      rotate_left
      ·intro w; go_simp <;> with_reducible rfl
      try simp only [Act.put, zqf, zqg, zqh]
      refine lPq 18 (some 140) (v := ?_) rfl ?_ (keep_of hH0) ?_
      rotate_left
      ·intro w; go_simp <;> with_reducible rfl
      try simp only [Act.put, zqf, zqg, zqh]
      refine lPq 19 (some 141) (v := ?_) rfl ?_ (keep_of hH0) ?_
      rotate_left
      ·intro w; go_simp <;> with_reducible rfl
      try simp only [Act.put, zqf, zqg, zqh]
      refine lPq 21 (some 143) (v := ?_) rfl ?_ (keep_of hH0) ?_
      rotate_left
      ·intro w; go_simp <;> with_reducible rfl
      try simp only [Act.put, zqf, zqg, zqh]
      refine lTq 20 (some 142) (v := ?_) rfl ?_ hH0 ?_
      rotate_left
      ·intro w hSw; (try dsimp only at hSw); go_simp <;> with_reducible rfl
      try simp only [Act.put, zqf, zqg, zqh]
      refine lPq 22 (some 144) (v := ?_) rfl ?_ (keep_of hH0) ?_
      rotate_left
      ·intro w; go_simp <;> with_reducible rfl
      try simp only [Act.put, zqf, zqg, zqh]
      refine lTq 23 (some 145) (v := ?_) rfl ?_ hH0 ?_
      rotate_left
      ·intro w hSw; (try dsimp only at hSw); go_simp <;> with_reducible rfl
      try simp only [Act.put, zqf, zqg, zqh]
      refine lTq 24 (some 146) (v := ?_) rfl ?_ hH0 ?_
      rotate_left
      ·intro w hSw; (try dsimp only at hSw); go_simp <;> with_reducible rfl
      try simp only [Act.put, zqf, zqg, zqh]
      refine lOne 25 (by kernel_rfl) (LStep.op (fun K hK => ?_))
      go_simp
      refine Calls.mono (HSM.out _ HB0.out) ?_
      rintro e wq1 ⟨r9, rfl, hr9, b9⟩
      obtain rfl : r9 = true := hr9 rfl
      have H1 := Tre.hid (H0.out.quiet b9)
      have ZZ3 := Tre.hid (cell_below b9 hH0.2.2.2.1)
      have ZZ4 := Tre.hid (cell_below b9 hH0.2.2.2.2.1)
      have ZZ5 := Tre.hid (cell_below b9 hH0.2.2.2.2.2.1)
      have ZZ6 := Tre.hid (cell_below b9 hH0.2.2.2.2.2.2.1)
      have ZZ7 := Tre.hid (cell_below b9 hH0.2.2.2.2.2.2.2.1)
      clear hr9 b9
      (try dsimp only)
      refine hK.out _ _ ?_ (fun hH1 => ?_)
      ·exact ⟨HLK.out _ H1.out, H1.out.cell 0 rfl 2 rfl, H1.out.cell 0 rfl 3 rfl, ZZ3.out, ZZ4.out, ZZ5.out, ZZ6.out, ZZ7.out, H1.out.cell 3 rfl 0 rfl, H1.out.cell 3 rfl 1 rfl, H1.out.cell 3 rfl 2 rfl, H1.out.cell 3 rfl 3 rfl, H1.out.cell 3 rfl 4 rfl⟩
      clear hK K hH0
      try simp only [Act.put, zqf, zqg, zqh]
      refine lPq 26 (some 148) (v := ?_) rfl ?_ (keep_of hH1) ?_
      rotate_left
      ·intro w; go_simp <;> with_reducible rfl
      try simp only [Act.put, zqf, zqg, zqh]
      refine lPq 27 (some 149) (v := ?_) rfl ?_ (keep_of hH1) ?_
      rotate_left
      ·intro w; go_simp <;> with_reducible rfl
      try simp only [Act.put, zqf, zqg, zqh]
      refine lDone (by kernel_rfl) ?_
      clear hH1
      have hLz := HLl.out
      clear e0 hkn
      go_wp2_with fail
      go_roundw
      case rel => exact ⟨k + 1, by omega, by go_num, H1.out⟩
      case measure => simp [intOf]; omega
     ·obtain ⟨y, hy, hle⟩ := HLE.out (k - 1) (by omega)
      obtain ⟨bl', ol', hbb, c0⟩ := HC1.out (k - 1) y hy
      cases hbb
      have e0 : (0 : Int) < (k : Int) := by omega
      have hkn : 0 < k := by omega
      have hLl := HLl.out
      have hwk : IntKind.i64.wrap ((k : Int) - 1) = ((k - 1 : Nat) : Int) := by rw [IntWalk.i64_in _ (by omega)]; omega
      have hm3 : k - 1 < L.length := by omega
      obtain ⟨m, hm⟩ : ∃ m, k - 1 = m := ⟨_, rfl⟩
      rw [hm] at hwk hm3 c0
      clear hLl hm
      have hls : Op.bytesLess (⟨y.toArray⟩ : ByteArray).toList (⟨s.toArray⟩ : ByteArray).toList = true := by rw [ba_list, ba_list, less_is]; exact hle
      have hlt2 : Op.bytesLess y s = true := by rw [less_is]; exact hle
      clear HLE HC1 hk0 hle hy
      go_upto_region 32 with fail
      clear c1
      have cS : Cond (fun w' => (Instr.lookup 44 (.map (some bM)) (.string ⟨s.toArray⟩) false).run Tryz.prog w' = .ok (.bool true) w' ∧ w'.cell? ⟨bW, 2, none⟩ = some (.slice (some ⟨ba, oa, none⟩) L.length cw) ∧ w'.cell? ⟨bW, 3, none⟩ = some (.slice (some ⟨bl, ol, none⟩) L.length dw) ∧ w'.cell? ⟨ba, oa + k * 5, none⟩ = some (.int .i64 t.kind) ∧ w'.cell? ⟨ba, oa + k * 5 + 1, none⟩ = some (.string ⟨t.s.toArray⟩) ∧ w'.cell? ⟨ba, oa + k * 5 + 2, none⟩ = some (.slice a2 t.args.length c2) ∧ w'.cell? ⟨ba, oa + k * 5 + 3, none⟩ = some (.slice l2 t.labels.length d2) ∧ w'.cell? ⟨ba, oa + k * 5 + 4, none⟩ = some (.bool t.opn) ∧ w'.cell? ⟨bT, 0, none⟩ = some (.int .i64 t.kind) ∧ w'.cell? ⟨bT, 1, none⟩ = some (.string ⟨t.s.toArray⟩) ∧ w'.cell? ⟨bT, 2, none⟩ = some (.slice aa t.args.length ca) ∧ w'.cell? ⟨bT, 3, none⟩ = some (.slice al t.labels.length cl) ∧ w'.cell? ⟨bT, 4, none⟩ = some (.bool t.opn) ∧ w'.cell? ⟨bl, ol + m, none⟩ = some (.string ⟨y.toArray⟩)) := ⟨⟩
      refine cS.keep [] ?_ (fun hH0 => ?_)
      ·exact ⟨HLK.out _ HI.out.drew, p2, p3, z0, z1, z2, z3, z4, r0, r1, r2, r3, r4, c0⟩
      have H0 := Tre.hid HI.out.drew
      have HB0 : Hid (Below wr.heap.size wr wr.drew) := (Below.refl _ _).drew
      generalize hq : World.drew _ = wq0 at H0 HB0 hH0 ⊢
      clear hq HI hlk p0 p1 p2 p3 p4 z0 z1 z2 z3 z4 r0 r1 r2 r3 r4 c0
      refine lPq 0 (some 122) (v := ?_) rfl ?_ (keep_of hH0) ?_
      rotate_left
      ·intro w; go_simp <;> with_reducible rfl
      try simp only [Act.put, zqf, zqg, zqh]
      refine lPq 1 (some 123) (v := ?_) rfl ?_ (keep_of hH0) ?_
      rotate_left
      ·intro w; go_simp <;> with_reducible rfl
      try simp only [Act.put, zqf, zqg, zqh]
      refine lTq 2 (some 124) (v := ?_) rfl ?_ hH0 ?_
      rotate_left
      ·intro w hSw; (try dsimp only at hSw); go_simp <;> with_reducible rfl
      try simp only [Act.put, zqf, zqg, zqh]
      refine lPq 3 (some 125) (v := ?_) rfl ?_ (keep_of hH0) ?_
      rotate_left
      ·intro w; go_simp <;> with_reducible rfl
      try simp only [Act.put, zqf, zqg, zqh]
      refine lPq 4 (some 126) (v := ?_) rfl ?_ (keep_of hH0) ?_
      rotate_left
      ·intro w; go_simp <;> with_reducible rfl
      try simp only [Act.put, zqf, zqg, zqh]
      refine lPq 5 (some 127) (v := ?_) rfl ?_ (keep_of hH0) ?_
      rotate_left
      ·intro w; go_simp <;> with_reducible rfl
      try simp only [Act.put, zqf, zqg, zqh]
      refine lPq 6 (some 128) (v := ?_) rfl ?_ (keep_of hH0) ?_
      rotate_left
      ·intro w; go_simp <;> with_reducible rfl
      try simp only [Act.put, zqf, zqg, zqh]
      refine lPq 7 (some 129) (v := ?_) rfl ?_ (keep_of hH0) ?_
      rotate_left
      ·intro w; go_simp <;> with_reducible rfl
      try simp only [Act.put, zqf, zqg, zqh]
      refine lPq 8 (some 130) (v := ?_) rfl ?_ (keep_of hH0) ?_
      rotate_left
      ·intro w; go_simp <;> with_reducible rfl
      try simp only [Act.put, zqf, zqg, zqh]
      refine lPq 10 (some 132) (v := ?_) rfl ?_ (keep_of hH0) ?_
      rotate_left
      ·intro w; go_simp <;> with_reducible rfl
      try simp only [Act.put, zqf, zqg, zqh]
      refine lPq 11 (some 133) (v := ?_) rfl ?_ (keep_of hH0) ?_
      rotate_left
      ·intro w; go_simp <;> with_reducible rfl
      try simp only [Act.put, zqf, zqg, zqh]
      refine lPq 14 (some 136) (v := ?_) rfl ?_ (keep_of hH0) ?_
      rotate_left
      ·intro w; go_simp <;> with_reducible rfl
      try simp only [Act.put, zqf, zqg, zqh]
      refine lTq 9 (some 131) (v := ?_) rfl ?_ hH0 ?_
      rotate_left
      ·intro w hSw; (try dsimp only at hSw); go_simp <;> with_reducible rfl
      try simp only [Act.put, zqf, zqg, zqh]
      refine lPq 12 (some 134) (v := ?_) rfl ?_ (keep_of hH0) ?_
      rotate_left
      ·intro w; go_simp <;> with_reducible rfl
      try simp only [Act.put, zqf, zqg, zqh]
      refine lTq 13 (some 135) (v := ?_) rfl ?_ hH0 ?_
      rotate_left
      ·intro w hSw; (try dsimp only at hSw); go_simp <;> with_reducible rfl
      try simp only [Act.put, zqf, zqg, zqh]
      refine lPq 15 (some 137) (v := ?_) rfl ?_ (keep_of hH0) ?_
      rotate_left
      ·intro w; go_simp <;> with_reducible rfl
      try simp only [Act.put, zqf, zqg, zqh]
      refine lPq 16 (some 138) (v := ?_) rfl ?_ (keep_of hH0) ?_
      rotate_left
      ·intro w; go_simp <;> with_reducible rfl
      try simp only [Act.put, zqf, zqg, zqh]
      refine lPq 17 (some 139) (v := ?_) rfl ?_ (keep_of hH0) ?_
      rotate_left
      ·intro w; go_simp <;> with_reducible rfl
      try simp only [Act.put, zqf, zqg, zqh]
      refine lPq 18 (some 140) (v := ?_) rfl ?_ (keep_of hH0) ?_
      rotate_left
      ·intro w; go_simp <;> with_reducible rfl
      try simp only [Act.put, zqf, zqg, zqh]
      refine lPq 19 (some 141) (v := ?_) rfl ?_ (keep_of hH0) ?_
      rotate_left
      ·intro w; go_simp <;> with_reducible rfl
      try simp only [Act.put, zqf, zqg, zqh]
      refine lPq 21 (some 143) (v := ?_) rfl ?_ (keep_of hH0) ?_
      rotate_left
      ·intro w; go_simp <;> with_reducible rfl
      try simp only [Act.put, zqf, zqg, zqh]
      refine lTq 20 (some 142) (v := ?_) rfl ?_ hH0 ?_
      rotate_left
      ·intro w hSw; (try dsimp only at hSw); go_simp <;> with_reducible rfl
      try simp only [Act.put, zqf, zqg, zqh]
      refine lPq 22 (some 144) (v := ?_) rfl ?_ (keep_of hH0) ?_
      rotate_left
      ·intro w; go_simp <;> with_reducible rfl
      try simp only [Act.put, zqf, zqg, zqh]
      refine lTq 23 (some 145) (v := ?_) rfl ?_ hH0 ?_
      rotate_left
      ·intro w hSw; (try dsimp only at hSw); go_simp <;> with_reducible rfl
      try simp only [Act.put, zqf, zqg, zqh]
      refine lTq 24 (some 146) (v := ?_) rfl ?_ hH0 ?_
      rotate_left
      ·intro w hSw; (try dsimp only at hSw); go_simp <;> with_reducible rfl
      try simp only [Act.put, zqf, zqg, zqh]
      refine lOne 25 (by kernel_rfl) (LStep.op (fun K hK => ?_))
      go_simp
      refine Calls.mono (HSM.out _ HB0.out) ?_
      rintro e wq1 ⟨r9, rfl, hr9, b9⟩
      obtain rfl : r9 = true := hr9 rfl
      have H1 := Tre.hid (H0.out.quiet b9)
      have ZZ3 := Tre.hid (cell_below b9 hH0.2.2.2.1)
      have ZZ4 := Tre.hid (cell_below b9 hH0.2.2.2.2.1)
      have ZZ5 := Tre.hid (cell_below b9 hH0.2.2.2.2.2.1)
      have ZZ6 := Tre.hid (cell_below b9 hH0.2.2.2.2.2.2.1)
      have ZZ7 := Tre.hid (cell_below b9 hH0.2.2.2.2.2.2.2.1)
      have ZZ13 := Tre.hid (cell_below b9 hH0.2.2.2.2.2.2.2.2.2.2.2.2.2)
      clear hr9 b9
      (try dsimp only)
      refine hK.out _ _ ?_ (fun hH1 => ?_)
      ·exact ⟨HLK.out _ H1.out, H1.out.cell 0 rfl 2 rfl, H1.out.cell 0 rfl 3 rfl, ZZ3.out, ZZ4.out, ZZ5.out, ZZ6.out, ZZ7.out, H1.out.cell 3 rfl 0 rfl, H1.out.cell 3 rfl 1 rfl, H1.out.cell 3 rfl 2 rfl, H1.out.cell 3 rfl 3 rfl, H1.out.cell 3 rfl 4 rfl, ZZ13.out⟩
      clear hK K hH0
      try simp only [Act.put, zqf, zqg, zqh]
      refine lPq 26 (some 148) (v := ?_) rfl ?_ (keep_of hH1) ?_
      rotate_left
      ·intro w; go_simp <;> with_reducible rfl
      try simp only [Act.put, zqf, zqg, zqh]
      refine lPq 27 (some 149) (v := ?_) rfl ?_ (keep_of hH1) ?_
      rotate_left
      ·intro w; go_simp <;> with_reducible rfl
      try simp only [Act.put, zqf, zqg, zqh]
      refine lDone (by kernel_rfl) ?_
      clear hH1
      clear hwk hm3 hls hlt2
      have hLz := HLl.out
      clear e0 hkn
      go_wp2_with fail
      go_roundw
      case rel => exact ⟨k + 1, by omega, by go_num, H1.out⟩
      case measure => simp [intOf]; omega

    ·go_wp2_with fail
     go_ret
     exact ⟨rfl, HI.out.below⟩


end Go.Proofs.YtbafalfmgibnfaaGreatDoor.typ
