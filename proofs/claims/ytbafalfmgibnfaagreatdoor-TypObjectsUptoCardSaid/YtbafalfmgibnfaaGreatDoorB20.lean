/- tree.walkType, verdict, CheckType. typ.Parse, where it comes to a type that may be. lex.Lex: a text's tokens, or the error's number. strings.Builder: WriteString. strings.Builder among the resources of a call: WriteString. typ.put at types that may be, but for objects. -/
import Derived.Test.YtbafalfmgibnfaaGreatDoorB19
import Derived.Test.YtbafalfmgibnfaaGreatDoorB10
import Derived.Test.YtbafalfmgibnfaaGreatDoorB03
import Derived.Test.YtbafalfmgibnfaaGreatDoorB15
import Derived.Defers
set_option linter.unusedVariables false
namespace Go.Tre
open Go.RowKit
inductive TyRd (w : World) : Ty → Value → Prop
 | mk {k : Nat} {s : List UInt8} {args : List Ty} {labels : List (List UInt8)} {o : Bool} {aa : Option Addr} {ca : Nat} {al : Option Addr} {cl : Nat} (V : Nat → Array Value)
   (hlab : ∀ (i : Nat) (x : List UInt8), labels[i]? = some x → ∃ b off, al = some ⟨b, off, none⟩ ∧ w.cell? ⟨b, off + i, none⟩ = some (.string ⟨x.toArray⟩))
   (hcell : ∀ i : Nat, i < args.length → ∃ b off, aa = some ⟨b, off, none⟩ ∧ (V i).size = 5 ∧ ∀ (j : Nat) (u : Value), (V i)[j]? = some u → w.cell? ⟨b, off + i * 5 + j, none⟩ = some u)
   (hargs : ∀ (i : Nat) (t : Ty), args[i]? = some t → TyRd w t (.agg (V i))) :
   TyRd w (.mk k s args labels o) (.agg #[.int .i64 k, .string ⟨s.toArray⟩, .slice aa args.length ca, .slice al labels.length cl, .bool o])
theorem TyIn.rd {w : World} {O : Nat → Prop} {t : Ty} {v : Value} (h : TyIn w O t v) : TyRd w t v := by
 induction h with
 | mk V OO hc hl hlab hcell hsub hdis hargs ih =>
  refine .mk V (fun i x hx => ?_) (fun i hi => ?_) ih
  ·obtain ⟨b, off, e, _, hcc⟩ := hlab i x hx
   exact ⟨b, off, e, hcc⟩
  ·obtain ⟨b, off, e, _, _, _, hs, hcc⟩ := hcell i hi
   exact ⟨b, off, e, hs, hcc⟩
theorem TyRd.after {w w' : World} {t : Ty} {v : Value} (h : TyRd w t v) (hb : Below w.heap.size w w') : TyRd w' t v := by
 induction h with
 | mk V hlab hcell hargs ih =>
  refine .mk V (fun i x hx => ?_) (fun i hi => ?_) ih
  ·obtain ⟨b, off, e, hcc⟩ := hlab i x hx
   exact ⟨b, off, e, cell_below hb hcc⟩
  ·obtain ⟨b, off, e, hs, hcc⟩ := hcell i hi
   exact ⟨b, off, e, hs, fun j u hu => cell_below hb (hcc j u hu)⟩
theorem TyRd.agg {w : World} {t : Ty} {v : Value} (h : TyRd w t v) : ∃ aa ca al cl, v = .agg #[.int .i64 t.kind, .string ⟨t.s.toArray⟩, .slice aa t.args.length ca, .slice al t.labels.length cl, .bool t.opn] := by
 cases h with
 | mk V => exact ⟨_, _, _, _, rfl⟩
theorem strs_rd {w : World} {al : Option Addr} {labels : List (List UInt8)}
  (h : ∀ (i : Nat) (x : List UInt8), labels[i]? = some x → ∃ b off, al = some ⟨b, off, none⟩ ∧ w.cell? ⟨b, off + i, none⟩ = some (.string ⟨x.toArray⟩)) : StrsAt w al (byteStrs labels) := by
 refine ⟨by simp, fun j u hu => ?_⟩
 rw [List.getElem?_map] at hu
 obtain ⟨y, hy, rfl⟩ := Option.map_eq_some_iff.1 hu
 unfold byteStrs at hy
 rw [List.getElem?_map] at hy
 obtain ⟨x, hx, rfl⟩ := Option.map_eq_some_iff.1 hy
 obtain ⟨b, off, e, hc⟩ := h j x hx
 exact ⟨b, off, e, hc⟩
theorem byteStrs_sum (l : List (List UInt8)) : ((byteStrs l).map fun s => s.size + 1).sum = (l.map fun x => x.length + 1).sum := by
 unfold byteStrs
 rw [List.map_map]
 rfl
theorem TyIn.under {w w' : World} {O : Nat → Prop} {t : Ty} {v : Value} (h : TyIn w O t v) (hO : ∀ b, O b → b < w.heap.size) (hb : Below w.heap.size w w') : TyIn w' O t v := h.keep fun b hbo => hb.block b (hO b hbo)
theorem walkTs_step {args : List Ty} {j : Nat} {t : Ty} (h : args[j]? = some t) (d : Int) : walkTs (args.drop j) d = if walkT t < 0 then -1 else walkTs (args.drop (j + 1)) (max d (walkT t)) := by
 obtain ⟨hj, rfl⟩ := List.getElem?_eq_some_iff.1 h
 rw [List.drop_eq_getElem_cons hj, walkTs]
end Go.Tre
namespace Go.Proofs.YtbafalfmgibnfaaGreatDoor.tree
open Go.RowKit Go.Maps Go.Tre lex gr typ
set_option maxRecDepth 100000 in
set_option maxHeartbeats 8000000 in
theorem walk_any (N : Nat) : ∀ (t : Ty) (v : Value) (w : World), t.weight ≤ N → t.weight ≤ 4194304 → TyRd w t v → MaxAt w →
  Calls Tryz.prog 27 #[v] w fun e w' => e = .returned (.int .i64 (walkT t)) ∧ Below w.heap.size w w' := by
 induction N with
 | zero =>
  intro t v w h
  have := weight_pos t
  omega
 | succ N ih =>
  intro t v w hN hW hT hm
  cases hT with
  | @mk k s args labels o aa ca al cl V hlab hcell hargs =>
  rw [Ty.weight] at hN hW
  have IH := Tre.hid ih
  have HS := Tre.hid (strs_rd hlab)
  have HCE := Tre.hid hcell
  have HAR := Tre.hid hargs
  have hlw : ((byteStrs labels).map fun s => s.size + 1).sum ≤ 8388608 := by rw [byteStrs_sum]; omega
  have hal : args.length ≤ 4194304 := Nat.le_trans (weights_len args) (by omega)
  have hwN : weights args ≤ N := by omega
  have hwW : weights args ≤ 4194303 := by omega
  have hss : s.length ≤ 4194304 := by omega
  have M0 := (Mem.nil w).allocR #[.int .i64 k, .string ⟨s.toArray⟩, .slice aa args.length ca, .slice al labels.length cl, .bool o] 28
  have HM := Tre.hid M0
  have HX := Tre.hid hm
  have HOW := Tre.hid (own_any k ⟨s.toArray⟩ aa args.length ca al cl labels o _ ((HS.out).below M0.below) hlw (by show s.toArray.size ≤ _; simp; omega) (by omega) (hm.below M0.below))
  have HWT : Hid (walkT (.mk k s args labels o) = if ownT k s args.length labels o = true then (if walkTs args 0 < 0 then -1 else walkTs args 0 + 1) else -1) := by show _ = _; rw [walkT]
  have HWW := Tre.hid (walkTs_weight args 0)
  have HWD := Tre.hid (fun (i : Nat) (t : Ty) (h : args[i]? = some t) => weights_at h)
  clear ih hlab hcell hargs hm hN hW hlw M0
  generalize hWR : walkT (.mk k s args labels o) = R at *
  clear hWR
  have hown' : (⟨s.toArray⟩ : ByteArray).data.toList = s := rfl
  rw [hown'] at HOW
  clear hown'
  cases hown : ownT k s args.length labels o
  ·rw [hown] at HOW HWT
   have HR : Hid (R = -1) := HWT.out
   clear HWT hown
   go_enter Tryz.func27, Tryz.ntmps27
   go_wp2_with fail
   refine HOW.out.mono ?_
   rintro e w1 ⟨rfl, b1⟩
   have HM1 := Tre.hid (HM.out.quiet b1)
   go_wp2_with fail
   go_ret
   exact ⟨ret_int HR.out.symm, HM1.out.below⟩
  ·rw [hown] at HOW HWT
   have HR : Hid (R = if walkTs args 0 < 0 then -1 else walkTs args 0 + 1) := HWT.out
   clear HWT hown
   go_enter Tryz.func27, Tryz.ntmps27
   go_wp2_with fail
   refine HOW.out.mono ?_
   rintro e w1 ⟨rfl, b1⟩
   have M1 := HM.out.quiet b1
   have c2 : w1.cell? ⟨w.heap.size, 2, none⟩ = some (.slice aa args.length ca) := M1.cell 0 rfl 2 rfl
   have HM1 := Tre.hid M1
   clear M1 b1 HOW HM
   go_wp2_with fail
   go_loopw [3, 13] (fun d i wr => ∃ (j : Nat) (dd : Int), j ≤ args.length ∧ i = .int .i64 j ∧ d = .int .i64 dd ∧ 0 ≤ dd ∧ dd ≤ 4194303 ∧ Hid (walkTs args 0 = walkTs (args.drop j) dd) ∧ Hid (Below w.heap.size w wr)) (fun _ i _ => args.length - (intOf i).toNat)
   case atStart => exact ⟨0, 0, Nat.zero_le _, rfl, rfl, Int.le_refl _, by omega, by show _ = _; rw [List.drop_zero], HM1.out.below⟩
   case round =>
    obtain ⟨j, dd, hj, rfl, rfl, hd0, hd1, HWS, HB⟩ := hrel
    clear c2
    by_cases hlt : j < args.length
    ·obtain ⟨tj, htj⟩ : ∃ tj, args[j]? = some tj := ⟨_, List.getElem?_eq_getElem hlt⟩
     obtain ⟨b, off, rfl, h5, hcc⟩ := HCE.out j hlt
     have hTj := HAR.out j tj htj
     obtain ⟨aj, cj, alj, clj, ej⟩ := hTj.agg
     have eV : V j = #[.int .i64 tj.kind, .string ⟨tj.s.toArray⟩, .slice aj tj.args.length cj, .slice alj tj.labels.length clj, .bool tj.opn] := by injection ej
     have hcell : ∀ (q : Nat) (u : Value), (V j)[q]? = some u → wr.cell? ⟨b, off + j * 5 + q, none⟩ = some u := fun q u hu => cell_below HB.out (hcc q u hu)
     rw [eV] at hcell hTj
     have y0 : wr.cell? ⟨b, off + j * 5, none⟩ = some (.int .i64 tj.kind) := hcell 0 _ rfl
     have y1 := hcell 1 (.string ⟨tj.s.toArray⟩) rfl
     have y2 := hcell 2 (.slice aj tj.args.length cj) rfl
     have y3 := hcell 3 (.slice alj tj.labels.length clj) rfl
     have y4 := hcell 4 (.bool tj.opn) rfl
     have hwt := HWD.out j tj htj
     have hB2 : Below w.heap.size w (wr.alloc (.cells #[.int .i64 tj.kind, .string ⟨tj.s.toArray⟩, .slice aj tj.args.length cj, .slice alj tj.labels.length clj, .bool tj.opn] 28)) := HB.out.trans ((Below.refl wr.heap.size wr).alloc (Nat.le_refl _) _ |>.mono HB.out.size)
     have HCA := Tre.hid (IH.out tj _ _ (by omega) (by omega) (hTj.after hB2) (HX.out.below hB2))
     have HB2 := Tre.hid hB2
     have HST := Tre.hid (walkTs_step htj dd)
     have hwl := walkT_low tj
     have hwu := walkT_weight tj
     generalize hWJ : walkT tj = wj at *
     clear hWJ hcc hcell hTj ej eV h5 hB2 htj
     by_cases hneg : wj < 0
     ·have HRR : Hid (R = -1) := by
       show _ = _
       rw [HR.out, HWS.out, HST.out, if_pos hneg]; rfl
      go_wp2_with fail
      refine HCA.out.mono ?_
      rintro e w2 ⟨rfl, b2⟩
      have HB3 := Tre.hid (HB2.out.trans (b2.mono HB2.out.size))
      go_wp2_with fail
      go_ret
      exact ⟨ret_int HRR.out.symm, HB3.out⟩
     ·have HWS2 : Hid (walkTs args 0 = walkTs (args.drop (j + 1)) (max dd wj)) := by
       show _ = _
       rw [HWS.out, HST.out, if_neg hneg]
      have hmx0 : 0 ≤ max dd wj := by omega
      have hmx1 : max dd wj ≤ 4194303 := by omega
      go_wp2_with fail
      refine HCA.out.mono ?_
      rintro e w2 ⟨rfl, b2⟩
      have HB3 := Tre.hid (HB2.out.trans (b2.mono HB2.out.size))
      go_wp2_with fail
      go_roundw
      case rel => exact ⟨j + 1, max dd wj, by omega, by go_num, rfl, hmx0, hmx1, HWS2.out, HB3.out⟩
      case measure => simp [intOf]; omega
    ·have e : args.drop j = [] := List.drop_eq_nil_of_le (by omega)
     have HRR : Hid (R = dd + 1) := by
      show _ = _
      rw [HR.out, HWS.out, e, walkTs, if_neg (by omega)]
     have ewr : IntKind.i64.wrap (dd + 1) = dd + 1 := IntWalk.i64_in _ (by omega)
     clear e
     go_wp2_with fail
     go_ret
     exact ⟨ret_int HRR.out.symm, HB.out⟩
set_option maxHeartbeats 1000000 in
theorem verdict_any (d : Int) (w : World) : Calls Tryz.prog 26 #[.int .i64 d] w fun e w' => e = .returned (.int .i64 (verdictI d)) ∧ w = w' := by
 by_cases h0 : d < 0
 ·have H : Hid (verdictI d = 2) := by show _ = _; unfold verdictI; rw [if_pos h0]
  go_enter Tryz.func26, Tryz.ntmps26
  go_wp2_with fail
  go_ret
  exact ⟨ret_int H.out.symm, rfl⟩
 ·by_cases h1 : 200 < d
  ·have H : Hid (verdictI d = 4) := by show _ = _; unfold verdictI; rw [if_neg h0, if_pos h1]
   go_enter Tryz.func26, Tryz.ntmps26
   go_wp2_with fail
   go_ret
   exact ⟨ret_int H.out.symm, rfl⟩
  ·have H : Hid (verdictI d = 0) := by show _ = _; unfold verdictI; rw [if_neg h0, if_neg h1]
   go_enter Tryz.func26, Tryz.ntmps26
   go_wp2_with fail
   go_ret
   exact ⟨ret_int H.out.symm, rfl⟩
set_option maxRecDepth 100000 in
set_option maxHeartbeats 2000000 in
theorem check_rd (t : Ty) (v : Value) (w : World) (hW : t.weight ≤ 4194304) (hT : TyRd w t v) (hm : MaxAt w) :
  Calls Tryz.prog 15 #[v] w fun e w' => e = .returned (.int .i64 (verdictI (walkT t))) ∧ Below w.heap.size w w' := by
 obtain ⟨aa, ca, al, cl, rfl⟩ := hT.agg
 have M0 := (Mem.nil w).allocR #[.int .i64 t.kind, .string ⟨t.s.toArray⟩, .slice aa t.args.length ca, .slice al t.labels.length cl, .bool t.opn] 28
 have HW := Tre.hid (walk_any t.weight t _ _ (Nat.le_refl _) hW (hT.after M0.below) (hm.below M0.below))
 have HM := Tre.hid M0
 generalize walkT t = d at *
 clear hT hm hW M0
 go_enter Tryz.func15, Tryz.ntmps15
 go_wp2_with fail
 refine HW.out.mono ?_
 rintro e w1 ⟨rfl, b1⟩
 have HM1 := Tre.hid (HM.out.quiet b1)
 go_wp2_with fail
 refine (verdict_any d _).mono ?_
 rintro e w2 ⟨rfl, rfl⟩
 go_wp2_with fail
 go_ret
 exact ⟨rfl, HM1.out.below⟩
theorem check_type (t : Ty) (O : Nat → Prop) (v : Value) (w : World) (hW : t.weight ≤ 4194304) (hT : TyIn w O t v) (_ : ∀ b, O b → b < w.heap.size) (hm : MaxAt w) :
  Calls Tryz.prog 15 #[v] w fun e w' => e = .returned (.int .i64 (verdictI (walkT t))) ∧ Below w.heap.size w w' := check_rd t v w hW hT.rd hm
end Go.Proofs.YtbafalfmgibnfaaGreatDoor.tree
namespace Go.Tre
theorem ends_of {l : List Tok} (h0 : 0 < l.length) (h : idxFunc Go.Proofs.YtbafalfmgibnfaaGreatDoor.typ.noEnd l = ((l.length - 1 : Nat) : Int)) : TokEnds l := by
 intro x hx
 unfold idxFunc at h
 split at h
 ·have e : l.findIdx Go.Proofs.YtbafalfmgibnfaaGreatDoor.typ.noEnd = l.length - 1 := by omega
  have hlt : l.findIdx Go.Proofs.YtbafalfmgibnfaaGreatDoor.typ.noEnd < l.length := by omega
  have hp := List.findIdx_getElem (w := hlt)
  rw [List.getElem?_eq_some_iff] at hx
  obtain ⟨hi, rfl⟩ := hx
  have e2 : l[l.findIdx Go.Proofs.YtbafalfmgibnfaaGreatDoor.typ.noEnd] = l[l.length - 1] := by congr 1
  rw [e2] at hp
  exact of_decide_eq_true hp
 ·omega
end Go.Tre
namespace Go.Proofs.YtbafalfmgibnfaaGreatDoor.typ
open Go.RowKit Go.Tre tree
theorem as_nil (t : Value) (w : World) :
  Calls Tryz.prog 19 #[.nilIface, t] w fun e w' => e = .returned (.bool false) ∧ w' = w := by
 go_enter Tryz.func19, Tryz.ntmps19
 go_wp2
 go_ret
 exact ⟨rfl, rfl⟩
set_option maxRecDepth 100000 in
set_option maxHeartbeats 8000000 in
theorem Parse_ok (ad : Option Addr) (c : Nat) (l : List Tok) (i k j : Nat) (t : Ty) (w : World) (hl : ToksAt w ad l) (hll : l.length ≤ 4194304) (h0 : 0 < l.length) (hx : idxFunc noEnd l = ((l.length - 1 : Nat) : Int)) (hi : i < l.length) (hp : pLev l k 0 i = some (t, j)) (ht : verdictI (walkT t) = 0) (hw : t.weight ≤ 4194304) (hm : MaxAt w) :
  Calls Tryz.prog 12 #[.slice ad l.length c, .int .i64 i] w fun e w' =>
   ∃ (O : Nat → Prop) (aa : Option Addr) (ca : Nat) (al : Option Addr) (cl : Nat), e = .returned (.tuple #[.agg #[.int .i64 (t.kind : Int), .string ⟨t.s.toArray⟩, .slice aa t.args.length ca, .slice al t.labels.length cl, .bool t.opn], .int .i64 j, .int .i64 0]) ∧ Mem w w' [tyR O t (.agg #[.int .i64 (t.kind : Int), .string ⟨t.s.toArray⟩, .slice aa t.args.length ca, .slice al t.labels.length cl, .bool t.opn])] := by
 have M0 := (Mem.nil w).allocR #[.int .i64 0, .string ⟨#[]⟩, .slice none 0 0, .slice none 0 0, .bool false] 28
 have HM0 := Tre.hid M0
 have HT := Tre.hid (text_yes ad c l _ (hl.below M0.below) hll h0 hx)
 have HL := Tre.hid hl
 have HE := Tre.hid (ends_of h0 hx)
 have HP := Tre.hid hp
 have HV := Tre.hid ht
 have HX := Tre.hid hm
 have HW := Tre.hid hw
 have hi1 : (i : Int) < (l.length : Int) := by omega
 have hi2 : ¬ (i : Int) < 0 := by omega
 have hi3 : decide (l.length ≤ i) = false := decide_eq_false (by omega)
 have hi4 : decide ((i : Int) < 0) = false := decide_eq_false hi2
 clear hl hx hp ht hm hw M0
 go_enter Tryz.func12, Tryz.ntmps12
 go_wp2_with fail
 refine HT.out.mono ?_
 rintro e w1 ⟨rfl, b1⟩
 have M1 := HM0.out.quiet b1
 have M2 := M1.allocR #[.slice ad l.length c, .int .i64 (i : Int)] 70
 have HR := Tre.hid (run_any w w1.heap.size ad c l HL.out HE.out hll k [cellsR w.heap.size 28 #[.int .i64 0, .string ⟨#[]⟩, .slice none 0 0, .slice none 0 0, .bool false]] i j t _ hi HP.out M2)
 clear HM0 M1 M2 HT hi1 hi2 hi3 b1
 go_wp2_with fail
 refine HR.out.mono ?_
 rintro e w2 ⟨O, aa, ca, al, cl, rfl, hj, M2⟩
 have M3 := (M2.allocR #[.int .i64 (t.kind : Int), .string ⟨t.s.toArray⟩, .slice aa t.args.length ca, .slice al t.labels.length cl, .bool t.opn] 28).allocR #[.pointer none] 73
 rw [World.size_alloc] at M3
 have HM3 := Tre.hid M3
 have HJ := Tre.hid hj
 generalize w1.heap.size = pb at *
 generalize hrb : w.heap.size = rb at *
 clear M2 M3 hj HR
 go_wp2_with fail
 refine (as_nil _ _).mono ?_
 rintro e w3 ⟨rfl, rfl⟩
 have y0 := HM3.out.cell 1 rfl 0 rfl
 have y1 := HM3.out.cell 1 rfl 1 rfl
 have y2 := HM3.out.cell 1 rfl 2 rfl
 have y3 := HM3.out.cell 1 rfl 3 rfl
 have y4 := HM3.out.cell 1 rfl 4 rfl
 have hty := HM3.out.at_ 2 rfl
 have HCT := Tre.hid (check_type t O _ _ HW.out hty.1 hty.2 (HX.out.below (by rw [hrb]; have := HM3.out.below; rw [hrb] at this; exact this)))
 rw [HV.out] at HCT
 clear hty
 go_wp2_with fail
 refine HCT.out.mono ?_
 rintro e w4 ⟨rfl, b4⟩
 generalize w2.heap.size = qb at *
 have M4 : Mem w w4 (cellsR (qb + 1) 73 #[.pointer none] :: cellsR qb 28 #[.int .i64 (t.kind : Int), .string ⟨t.s.toArray⟩, .slice aa t.args.length ca, .slice al t.labels.length cl, .bool t.opn] :: tyR O t (.agg #[.int .i64 (t.kind : Int), .string ⟨t.s.toArray⟩, .slice aa t.args.length ca, .slice al t.labels.length cl, .bool t.opn]) :: parR pb ad l.length c j :: cellsR rb 28 #[.int .i64 0, .string ⟨#[]⟩, .slice none 0 0, .slice none 0 0, .bool false] :: []) := HM3.out.quiet b4
 have p0 : w4.cell? ⟨qb, 0, none⟩ = some (.int .i64 (t.kind : Int)) := M4.cell 1 rfl 0 rfl
 have p1 : w4.cell? ⟨qb, 1, none⟩ = some (.string ⟨t.s.toArray⟩) := M4.cell 1 rfl 1 rfl
 have p2 : w4.cell? ⟨qb, 2, none⟩ = some (.slice aa t.args.length ca) := M4.cell 1 rfl 2 rfl
 have p3 : w4.cell? ⟨qb, 3, none⟩ = some (.slice al t.labels.length cl) := M4.cell 1 rfl 3 rfl
 have p4 : w4.cell? ⟨qb, 4, none⟩ = some (.bool t.opn) := M4.cell 1 rfl 4 rfl
 have p5 : w4.cell? ⟨pb, 1, none⟩ = some (.int .i64 j) := M4.cell 3 rfl 1 rfl
 have HM4 := Tre.hid M4
 clear M4 b4 HM3 HCT y0 y1 y2 y3 y4
 go_wp2_with fail
 have cS : Cond (fun w' => w'.cell? ⟨qb, 0, none⟩ = some (.int .i64 (t.kind : Int)) ∧ w'.cell? ⟨qb, 1, none⟩ = some (.string ⟨t.s.toArray⟩) ∧ w'.cell? ⟨qb, 2, none⟩ = some (.slice aa t.args.length ca) ∧ w'.cell? ⟨qb, 3, none⟩ = some (.slice al t.labels.length cl) ∧ w'.cell? ⟨qb, 4, none⟩ = some (.bool t.opn) ∧ w'.cell? ⟨pb, 1, none⟩ = some (.int .i64 j)) := ⟨⟩
 refine cS.keep [] ?_ (fun hH0 => ?_)
 ·exact ⟨p0, p1, p2, p3, p4, p5⟩
 have H0 := Tre.hid HM4.out.drew
 generalize hq : w4.drew = wq0 at H0 hH0 ⊢
 clear hq p0 p1 p2 p3 p4 p5 HM4
 refine lPq 1 (some 47) (v := ?_) rfl ?_ (keep_of hH0) ?_
 rotate_left
 ·intro w; go_simp <;> with_reducible rfl
 try simp only [Act.put, zqf, zqg, zqh]
 refine lPq 2 (some 48) (v := ?_) rfl ?_ (keep_of hH0) ?_
 rotate_left
 ·intro w; go_simp <;> with_reducible rfl
 try simp only [Act.put, zqf, zqg, zqh]
 refine lPq 3 (some 49) (v := ?_) rfl ?_ (keep_of hH0) ?_
 rotate_left
 ·intro w; go_simp <;> with_reducible rfl
 try simp only [Act.put, zqf, zqg, zqh]
 refine lTq 0 (some 46) (v := ?_) rfl ?_ hH0 ?_
 rotate_left
 ·intro w hSw; (try dsimp only at hSw); go_simp <;> with_reducible rfl
 try simp only [Act.put, zqf, zqg, zqh]
 refine lTq 4 (some 50) (v := ?_) rfl ?_ hH0 ?_
 rotate_left
 ·intro w hSw; (try dsimp only at hSw); go_simp <;> with_reducible rfl
 try simp only [Act.put, zqf, zqg, zqh]
 refine lOne 5 (by kernel_rfl) (LStep.op (fun K hK => ?_))
 have MT : Mem w wq0 (cellsR rb 28 #[.int .i64 0, .string ⟨#[]⟩, .slice none 0 0, .slice none 0 0, .bool false] :: _) := H0.out.front 4 rfl
 have g0 : wq0.cell? ⟨rb, 0, none⟩ = some (.int .i64 0) := MT.cell 0 rfl 0 rfl
 have g1 : wq0.cell? ⟨rb, 1, none⟩ = some (.string ⟨#[]⟩) := MT.cell 0 rfl 1 rfl
 have g2 : wq0.cell? ⟨rb, 2, none⟩ = some (.slice none 0 0) := MT.cell 0 rfl 2 rfl
 have g3 : wq0.cell? ⟨rb, 3, none⟩ = some (.slice none 0 0) := MT.cell 0 rfl 3 rfl
 have g4 : wq0.cell? ⟨rb, 4, none⟩ = some (.bool false) := MT.cell 0 rfl 4 rfl
 have f0 := MT.free 0 rfl 0
 have f1 := MT.free 0 rfl 1
 have f2 := MT.free 0 rfl 2
 have f3 := MT.free 0 rfl 3
 have f4 := MT.free 0 rfl 4
 have M6 : Mem w (((((wq0.setCell ⟨rb, 0, none⟩ (.int .i64 (t.kind : Int))).setCell ⟨rb, 1, none⟩ (.string ⟨t.s.toArray⟩)).setCell ⟨rb, 2, none⟩ (.slice aa t.args.length ca)).setCell ⟨rb, 3, none⟩ (.slice al t.labels.length cl)).setCell ⟨rb, 4, none⟩ (.bool t.opn)) (cellsR rb 28 #[.int .i64 (t.kind : Int), .string ⟨t.s.toArray⟩, .slice aa t.args.length ca, .slice al t.labels.length cl, .bool t.opn] :: _) := (((((MT.setCell 0 rfl 0 (.int .i64 (t.kind : Int))).setCell 0 rfl 1 (.string ⟨t.s.toArray⟩)).setCell 0 rfl 2 (.slice aa t.args.length ca)).setCell 0 rfl 3 (.slice al t.labels.length cl)).setCell 0 rfl 4 (.bool t.opn))
 go_simp
 generalize hw : (((((wq0.setCell ⟨rb, 0, none⟩ (.int .i64 (t.kind : Int))).setCell ⟨rb, 1, none⟩ (.string ⟨t.s.toArray⟩)).setCell ⟨rb, 2, none⟩ (.slice aa t.args.length ca)).setCell ⟨rb, 3, none⟩ (.slice al t.labels.length cl)).setCell ⟨rb, 4, none⟩ (.bool t.opn)) = wq1 at M6 ⊢
 have H1 := Tre.hid M6
 have s0 : wq1.cell? ⟨qb, 0, none⟩ = some (.int .i64 (t.kind : Int)) := M6.cell 2 rfl 0 rfl
 have s1 : wq1.cell? ⟨qb, 1, none⟩ = some (.string ⟨t.s.toArray⟩) := M6.cell 2 rfl 1 rfl
 have s2 : wq1.cell? ⟨qb, 2, none⟩ = some (.slice aa t.args.length ca) := M6.cell 2 rfl 2 rfl
 have s3 : wq1.cell? ⟨qb, 3, none⟩ = some (.slice al t.labels.length cl) := M6.cell 2 rfl 3 rfl
 have s4 : wq1.cell? ⟨qb, 4, none⟩ = some (.bool t.opn) := M6.cell 2 rfl 4 rfl
 have s5 : wq1.cell? ⟨pb, 1, none⟩ = some (.int .i64 j) := M6.cell 4 rfl 1 rfl
 have S0 := Tre.hid s0
 have S1 := Tre.hid s1
 have S2 := Tre.hid s2
 have S3 := Tre.hid s3
 have S4 := Tre.hid s4
 have S5 := Tre.hid s5
 clear s0 s1 s2 s3 s4 s5 M6 MT hw g0 g1 g2 g3 g4 f0 f1 f2 f3 f4
 refine hK.out _ _ ?_ (fun hH1 => ?_)
 ·exact ⟨S0.out, S1.out, S2.out, S3.out, S4.out, S5.out⟩
 clear hK K hH0
 try simp only [Act.put, zqf, zqg, zqh]
 refine lPq 6 (some 5) (v := ?_) rfl ?_ (keep_of hH1) ?_
 rotate_left
 ·intro w; go_simp <;> with_reducible rfl
 try simp only [Act.put, zqf, zqg, zqh]
 refine lPq 7 (some 6) (v := ?_) rfl ?_ (keep_of hH1) ?_
 rotate_left
 ·intro w; go_simp <;> with_reducible rfl
 try simp only [Act.put, zqf, zqg, zqh]
 refine lDone (by kernel_rfl) ?_
 clear hH1
 go_wp2_with fail
 have z0 : wq1.cell? ⟨rb, 0, none⟩ = some (.int .i64 (t.kind : Int)) := H1.out.cell 0 rfl 0 rfl
 have z1 : wq1.cell? ⟨rb, 1, none⟩ = some (.string ⟨t.s.toArray⟩) := H1.out.cell 0 rfl 1 rfl
 have z2 : wq1.cell? ⟨rb, 2, none⟩ = some (.slice aa t.args.length ca) := H1.out.cell 0 rfl 2 rfl
 have z3 : wq1.cell? ⟨rb, 3, none⟩ = some (.slice al t.labels.length cl) := H1.out.cell 0 rfl 3 rfl
 have z4 : wq1.cell? ⟨rb, 4, none⟩ = some (.bool t.opn) := H1.out.cell 0 rfl 4 rfl
 refine bodyPost_ret (v := .tuple #[.agg #[.int .i64 (t.kind : Int), .string ⟨t.s.toArray⟩, .slice aa t.args.length ca, .slice al t.labels.length cl, .bool t.opn], .int .i64 j, .int .i64 0]) (by simp [results, Tryz.results12, go_sem, z0, z1, z2, z3, z4]) rfl ?_
 have MR : Mem w wq1 (tyR O t (.agg #[.int .i64 (t.kind : Int), .string ⟨t.s.toArray⟩, .slice aa t.args.length ca, .slice al t.labels.length cl, .bool t.opn]) :: _) := H1.out.front 3 rfl
 exact ⟨O, aa, ca, al, cl, rfl, MR.sub (by simp)⟩
end Go.Proofs.YtbafalfmgibnfaaGreatDoor.typ
namespace Go.Tre
open Go.RowKit
def LexPost (w : World) (s : ByteArray) (D : Option (List Tok)) (e : Ending) (w' : World) : Prop :=
 (∃ ts v, D = some ts ∧ e = .returned (.tuple #[v, .int .i64 0, .int .i64 0]) ∧ Mem w w' [toksR v ts]) ∨
 (D = none ∧ ∃ at_ : Nat, e = .returned (.tuple #[.slice none 0 0, .int .i64 at_, .int .i64 ((if s.size ≤ 65536 then 5 else 3 : Nat) : Int)]) ∧ Below w.heap.size w w')
end Go.Tre
namespace Go.Proofs.YtbafalfmgibnfaaGreatDoor.lex
open Go.RowKit Go.Tre
set_option maxRecDepth 100000 in
set_option maxHeartbeats 8000000 in
theorem Lex (s : ByteArray) (w : World) (hs : s.size ≤ 4194304) (E : LexEnv w) :
  Calls Tryz.prog 11 #[.string s] w (LexPost w s (lexS s.data.toList)) := by
 have HE := Tre.hid E
 obtain ⟨D, hD⟩ : ∃ D, Hid (lexS s.data.toList = D) := ⟨_, rfl⟩
 have HA := Tre.hid (all s w hs E)
 rw [hD.out] at HA ⊢
 clear E
 go_enter Tryz.func11, Tryz.ntmps11
 go_wp2_with fail
 refine HA.out.mono ?_
 intro e w1 hp
 rcases hp with ⟨ts, v, hd, rfl, M⟩ | ⟨hd, v, bs, at_, rfl, M⟩
 ·have HM := Tre.hid M
  have HD := Tre.hid hd
  clear M hd
  go_wp2_with fail
  refine (errs.as_nil _ _).mono ?_
  rintro e w' ⟨rfl, rfl⟩
  go_wp2_with fail
  go_ret3
  exact .inl ⟨ts, v, HD.out, rfl, HM.out.alloc _⟩
 ·generalize hno : (if s.size ≤ 65536 then 5 else 3) = no at *
  have HM := Tre.hid (M.allocR #[.pointer none] 62)
  have HD := Tre.hid hd
  have HN := Tre.hid hno
  have hbelow := HM.out.below
  have HEI := HM.out.at_ 1 rfl
  have hc := HM.out.cell 0 rfl 0 rfl
  have hf := HM.out.free 0 rfl 0
  obtain ⟨te, ve, rfl⟩ := errIface (M.at_ 0 rfl)
  have HAS := Tre.hid (errs.as_any _ bs at_ no ⟨w1.heap.size, 0, none⟩ _ _ HEI (HE.out.et.below hbelow) hc hf)
  clear M hd hno HEI hc hf hbelow
  go_wp2_with fail
  refine HAS.out.mono ?_
  rintro e w' ⟨rfl, p, w2, hb, hp, rfl⟩
  have hM2 := HM.out.quiet hb
  have M3 := hM2.setCell 0 rfl 0 (.pointer (some ⟨p, 0, none⟩))
  have hw1 : p < (w1.alloc (.cells #[.pointer none] 62)).heap.size := (Array.getElem?_eq_some_iff.1 hp).1
  have hne : p ≠ w1.heap.size := by
   intro e
   have h1 := (heap_alloc_new w1 (.cells #[.pointer none] 62)).symm.trans (e ▸ hp)
   simp at h1
  have hp2 : w2.heap[p]? = some (.cells #[.int .i64 at_, .int .i64 no] 66 (0, 0)) := (hb.block p hw1).trans hp
  have hp3 : (w2.setCell ⟨w1.heap.size, 0, none⟩ (.pointer (some ⟨p, 0, none⟩))).heap[p]? = some (.cells #[.int .i64 at_, .int .i64 no] 66 (0, 0)) := (Below.heap_setCell w2 ⟨w1.heap.size, 0, none⟩ _ p hne).trans hp2
  generalize hg : w2.setCell ⟨w1.heap.size, 0, none⟩ (.pointer (some ⟨p, 0, none⟩)) = w3 at M3 hp3 ⊢
  have q0 : w3.cell? ⟨w1.heap.size, 0, none⟩ = some (.pointer (some ⟨p, 0, none⟩)) := M3.cell 0 rfl 0 rfl
  have q1 : w3.cell? ⟨p, 0, none⟩ = some (.int .i64 at_) := by simp [World.cell?, hp3]
  have q2 : w3.cell? ⟨p, 1, none⟩ = some (.int .i64 no) := by simp [World.cell?, hp3]
  have HM3 := Tre.hid M3.none_
  clear hg hp2 hp3 M3 hM2 hb hp hw1 hne HAS HM
  go_wp2_with fail
  go_region_held3 (fun w' => Below w3.heap.size w3 w' ∧ w'.cell? ⟨w1.heap.size, 0, none⟩ = some (.pointer (some ⟨p, 0, none⟩)) ∧ w'.cell? ⟨p, 0, none⟩ = some (.int .i64 at_) ∧ w'.cell? ⟨p, 1, none⟩ = some (.int .i64 no))
   (first | exact ⟨(Below.refl _ _).drew, q0, q1, q2⟩ | go_keep) (fail)
  have hb := (show Below w3.heap.size w3 w3.drew ∧ _ from by assumption).1
  have HB := Tre.hid hb
  clear hb
  go_wp2_with fail
  go_ret3
  refine .inr ⟨HD.out, at_, ?_, (HM3.out.quiet HB.out).below⟩
  rw [HN.out]
  rfl
end Go.Proofs.YtbafalfmgibnfaaGreatDoor.lex
namespace Go.Proofs.YtbafalfmgibnfaaGreatDoor.gr
open Go.RowKit Go.Maps Go.Tre
end Go.Proofs.YtbafalfmgibnfaaGreatDoor.gr
namespace Go.Tre
open Go.Lib
theorem wpList_append_string_at {P : Program} {w : World} {ops : Array Oper} {rest : List Oper} {o : Oper} {a : Act} {Q : Exit → Act → World → Prop} (hgd : o.guard = none) (sl x : Operand) (t u : TypeId)
  (ho : o.op = .call { callee := .builtin .append, args := #[sl, x], argTypes := #[t, u] })
  (e : TypeId) (i : TypeInfo) (ht : P.underlying t = some (.slice e)) (hu : P.underlying u = some .string) (hi : P.info? e = some i) (hz : i.zero = some (.int .u8 0))
  (hsize : i.size = 1) (hby : i.bytes = 1)
  (v : Value) (n : Nat) (xs : List Value) (hs : a.eval sl = v) (hown : w.ownsRow 0 e 1 v n xs) (s : ByteArray) (hx : a.eval x = .string s)
  (h63 : n + s.size ≤ maxLen) (hbytes : n + s.size ≤ 140737488355328)
  (h : ∀ v' w', w'.ownsRow 0 e 1 v' (n + s.size) (xs ++ strCells s) → w.grownBy w' v.ownBlock → (v'.ownBlock = v.ownBlock ∨ v'.ownBlock = some w.heap.size) → wpList P ops Q rest (a.put o.dst v') w') : wpList P ops Q (o :: rest) a w := by
 refine wpList_plain hgd fun K hK => ?_
 obtain ⟨v', w', hr, h2, h3, h4⟩ := run_append_own_string (P := P) w 0 t u o.type e i ht hu hi hz hsize hby v n xs hown s h63 hbytes (Nat.zero_le _)
 have hat : v'.ownBlock = v.ownBlock ∨ v'.ownBlock = some w.heap.size := by
  have hxl : xs.length = n := by simpa using hown.1
  rcases hown.2 with ⟨rfl, rfl⟩ | ⟨g, cap, cur, rfl, hbg, hg, hnc, hcm, hcs, htake⟩
  ·by_cases hm : s.size = 0
   ·exact .inl (by rw [h4.2 ⟨rfl, hm⟩])
   ·have hr2 := run_append_nil_string (P := P) w t u o.type e i (.int .u8 0) ht hu hi hz s (by omega) (by omega) (by rw [hby]; omega)
    rw [hr] at hr2
    injection hr2 with e1 _
    exact .inr (by rw [e1]; rfl)
  ·by_cases hroom : n + s.size ≤ cap
   ·have hcs' : cur.size = cap := by simpa using hcs
    have hr2 := run_append_room_string (P := P) w t u o.type e i ht hu hi hsize g n cap cur hg s hroom (by omega)
    rw [hr] at hr2
    injection hr2 with e1 _
    exact .inl (by rw [e1]; rfl)
   ·have holds : ∀ j u, xs[j]? = some u → w.cell? ((⟨g, 0, none⟩ : Addr).add j) = some u := hown.cells (g := g) rfl
    have hr2 := run_append_grow_string (P := P) w t u o.type e i (.int .u8 0) ht hu hi hz ⟨g, 0, none⟩ n cap xs (by rw [hsize]; simpa using hxl) holds s (by omega) (by unfold maxLen at h63; omega) (by rw [hby]; exact growslice_fits (by omega) (by omega))
    rw [hr] at hr2
    injection hr2 with e1 _
    exact .inr (by rw [e1]; rfl)
 unfold Oper.wp execOp
 simp only [ho, resolve, invoke, builtin, Sem.run_bind, Sem.run_pure, Result.andThen_ok, List.map_toArray, List.map_cons, List.map_nil, hs, hx, hr]
 exact hK _ _ (h v' w' h2 h3 hat)
end Go.Tre
namespace Go.Proofs.YtbafalfmgibnfaaGreatDoor.gr
open Go.RowKit Go.Maps Go.Tre
set_option maxHeartbeats 1000000 in
set_option maxRecDepth 100000 in
theorem writeStringM (w0 : World) (rs : List Res) (b : Nat) (p v : Value) (l : List UInt8) (s : ByteArray) (w : World) (h : Mem w0 w (cellsR b 55 #[p, v] :: rowR 5 1 v l.length (Lib.byteCells l) :: rs)) (hp : p = .pointer none ∨ p = .pointer (some ⟨b, 0, none⟩)) (hlen : l.length + s.size ≤ 140737488355328) :
  Calls Tryz.prog 29 #[.pointer (some ⟨b, 0, none⟩), .string s] w fun e w' => e = .returned (.tuple #[.int .i64 s.size, .nilIface]) ∧ ∃ v', Mem w0 w' (cellsR b 55 #[.pointer (some ⟨b, 0, none⟩), v'] :: rowR 5 1 v' (l ++ s.data.toList).length (Lib.byteCells (l ++ s.data.toList)) :: rs) := by
 obtain ⟨i0, hi, hz0, hz1, hz2⟩ := info_parts infoU8
 have CC : Calls Tryz.prog 46 #[.pointer (some ⟨b, 0, none⟩)] w fun e w' => e = .returned (.tuple #[]) ∧ Mem w0 w' (cellsR b 55 #[.pointer (some ⟨b, 0, none⟩), v] :: rowR 5 1 v l.length (Lib.byteCells l) :: rs) := by
  rcases hp with rfl | rfl
  ·refine (copyCheck_fresh b w (h.cell 0 rfl 0 rfl) (by simp [World.shape?, h.heap 0 rfl]) (h.free 0 rfl 0)).mono ?_
   rintro e w' ⟨rfl, rfl⟩
   exact ⟨rfl, h.setCell 0 rfl 0 _⟩
  ·refine (copyCheck_used b w (h.cell 0 rfl 0 rfl)).mono ?_
   rintro e w' ⟨rfl, rfl⟩
   exact ⟨rfl, h⟩
 have HCC := Tre.hid CC
 have HL : Hid ((l ++ s.data.toList).length = l.length + s.size) := by show _ = _; simp
 clear h hp CC
 go_enter Tryz.func29, Tryz.ntmps29
 go_wp2_with fail
 refine HCC.out.mono ?_
 rintro e w1 ⟨rfl, M1⟩
 have q1 := M1.cell 0 rfl 1 rfl
 have HM1 := Tre.hid M1
 clear M1 HCC
 go_wp2_with (at_builtin; refine wpList_append_string_at rfl _ _ 53 9 rfl 5 i0 Tryz.underlying53 Tryz.underlying9 hi hz0 hz1 hz2 _ _ _ rfl (HM1.out.row 1 rfl) s rfl ?c3 ?c4 ?_)
 case c3 => unfold maxLen; omega
 case c4 => omega
 intro v3 w3 hown3 hgrow3 hat3
 rw [bytes_app] at hown3
 have M3 := HM1.out.grow 1 rfl hgrow3 hown3 hat3
 obtain ⟨a3, c3, rfl, _⟩ := M3.val 1 rfl
 have q3 := M3.cell 0 rfl 1 rfl
 have f3 := M3.free 0 rfl 1
 have HM4 := Tre.hid (M3.setCell 0 rfl 1 (.slice a3 (l.length + s.size) c3))
 clear M3 hown3 hgrow3 hat3
 go_wp2_with fail
 go_ret2
 refine ⟨rfl, .slice a3 (l.length + s.size) c3, ?_⟩
 rw [HL.out]
 exact HM4.out
end Go.Proofs.YtbafalfmgibnfaaGreatDoor.gr
namespace Go.Proofs.YtbafalfmgibnfaaGreatDoor.gr
open Go.RowKit Go.Maps Go.Tre
def BldM (w0 w : World) (b : Nat) (l : List UInt8) (rs : List Res) : Prop :=
 ∃ p v, (p = .pointer none ∨ p = .pointer (some ⟨b, 0, none⟩)) ∧ Mem w0 w (cellsR b 55 #[p, v] :: rowR 5 1 v l.length (Lib.byteCells l) :: rs)
section
variable {w0 w w' : World} {b : Nat} {l : List UInt8} {rs ss : List Res}
theorem BldM.rest (h : BldM w0 w b l rs) : Mem w0 w rs := by obtain ⟨p, v, _, m⟩ := h; exact m.drop1.drop1
theorem BldM.below (h : BldM w0 w b l rs) : Below w0.heap.size w0 w := h.rest.below
theorem BldM.quiet (h : BldM w0 w b l rs) (k : Below w.heap.size w w') : BldM w0 w' b l rs := by obtain ⟨p, v, e, m⟩ := h; exact ⟨p, v, e, m.quiet k⟩
theorem BldM.drew (h : BldM w0 w b l rs) : BldM w0 w.drew b l rs := by obtain ⟨p, v, e, m⟩ := h; exact ⟨p, v, e, m.drew⟩
theorem BldM.subs (h : BldM w0 w b l rs) (s : ss.Sublist rs) : BldM w0 w b l ss := by obtain ⟨p, v, e, m⟩ := h; exact ⟨p, v, e, m.sub ((s.cons_cons _).cons_cons _)⟩
theorem BldM.allocR (h : BldM w0 w b l rs) (cs : Array Value) (t : TypeId) : BldM w0 (w.alloc (.cells cs t)) b l (cellsR w.heap.size t cs :: rs) := by
 obtain ⟨p, v, e, m⟩ := h
 exact ⟨p, v, e, (((m.allocR cs t).front 1 rfl).front 2 rfl).perm (List.Perm.swap ..)⟩
theorem BldM.new (h : Mem w0 w rs) : BldM w0 (w.alloc (.cells #[.pointer none, .slice none 0 0] 55)) w.heap.size [] rs :=
 ⟨_, _, .inl rfl, ((h.allocR #[.pointer none, .slice none 0 0] 55).addNil 5 1).perm (List.Perm.swap ..)⟩
theorem wByte (c : UInt8) (h : BldM w0 w b l rs) (hlen : l.length + 1 ≤ 140737488355328) : Calls Tryz.prog 28 #[.pointer (some ⟨b, 0, none⟩), .int .u8 c.toNat] w fun e w' => e = .returned .nilIface ∧ BldM w0 w' b (l ++ [c]) rs := by
 obtain ⟨p, v, hp, m⟩ := h
 refine (writeByte w0 rs b p v l c w m hp hlen).mono ?_
 rintro e w' ⟨rfl, v', m'⟩
 have e : (l ++ [c]).length = l.length + 1 := by simp
 exact ⟨rfl, _, v', .inr rfl, by rw [e]; exact m'⟩
theorem wStr (s : ByteArray) (h : BldM w0 w b l rs) (hlen : l.length + s.size ≤ 140737488355328) : Calls Tryz.prog 29 #[.pointer (some ⟨b, 0, none⟩), .string s] w fun e w' => e = .returned (.tuple #[.int .i64 s.size, .nilIface]) ∧ BldM w0 w' b (l ++ s.data.toList) rs := by
 obtain ⟨p, v, hp, m⟩ := h
 refine (writeStringM w0 rs b p v l s w m hp hlen).mono ?_
 rintro e w' ⟨rfl, v', m'⟩
 exact ⟨rfl, _, v', .inr rfl, m'⟩
theorem bText (h : BldM w0 w b l rs) : Calls Tryz.prog 17 #[.pointer (some ⟨b, 0, none⟩)] w fun e w' => e = .returned (.string ⟨l.toArray⟩) ∧ Below w0.heap.size w0 w' := by
 obtain ⟨p, v, hp, m⟩ := h
 exact builderTextM w0 rs b p v l ⟨l.toArray⟩ w m hp rfl
end
end Go.Proofs.YtbafalfmgibnfaaGreatDoor.gr
namespace Go.Proofs.YtbafalfmgibnfaaGreatDoor.gr
open Go.RowKit Go.Maps Go.Tre
set_option maxHeartbeats 1000000 in
set_option maxRecDepth 100000 in
theorem writeByteD (w0 : World) (rs : List Res) (b : Nat) (p v : Value) (l : List UInt8) (c : UInt8) (fm : FrameMode) (w : World) (h : Mem w0 w (cellsR b 55 #[p, v] :: rowR 5 1 v l.length (Lib.byteCells l) :: rs)) (hp : p = .pointer none ∨ p = .pointer (some ⟨b, 0, none⟩)) (hlen : l.length + 1 ≤ 140737488355328) :
  CallsD Tryz.prog 28 #[.pointer (some ⟨b, 0, none⟩), .int .u8 c.toNat] fm w fun e u' w' => u' = fm ∧ (e = .returned .nilIface ∧ ∃ v', Mem w0 w' (cellsR b 55 #[.pointer (some ⟨b, 0, none⟩), v'] :: rowR 5 1 v' (l.length + 1) (Lib.byteCells (l ++ [c])) :: rs)) := by
 obtain ⟨i0, hi, hz0, hz1, hz2⟩ := info_parts infoU8
 have CC : Calls Tryz.prog 46 #[.pointer (some ⟨b, 0, none⟩)] w fun e w' => e = .returned (.tuple #[]) ∧ Mem w0 w' (cellsR b 55 #[.pointer (some ⟨b, 0, none⟩), v] :: rowR 5 1 v l.length (Lib.byteCells l) :: rs) := by
  rcases hp with rfl | rfl
  ·refine (copyCheck_fresh b w (h.cell 0 rfl 0 rfl) (by simp [World.shape?, h.heap 0 rfl]) (h.free 0 rfl 0)).mono ?_
   rintro e w' ⟨rfl, rfl⟩
   exact ⟨rfl, h.setCell 0 rfl 0 _⟩
  ·refine (copyCheck_used b w (h.cell 0 rfl 0 rfl)).mono ?_
   rintro e w' ⟨rfl, rfl⟩
   exact ⟨rfl, h⟩
 have HCC := Tre.hid CC
 have Z1 := Tre.hid hz0
 have Z2 := Tre.hid hz1
 have Z3 := Tre.hid hz2
 clear h hp CC hz0 hz1 hz2
 go_enter_d Tryz.func28, Tryz.ntmps28
 go_wp2_with fail
 refine HCC.out.mono ?_
 rintro e w1 ⟨rfl, M1⟩
 have q1 := M1.cell 0 rfl 1 rfl
 have HA := Tre.hid (M1.allocR #[.int .u8 c.toNat] 5)
 have HR := Tre.hid (row_one w1 (.int .u8 c.toNat) 5)
 clear M1 HCC
 obtain ⟨a0, c0, rfl, _⟩ := HA.out.val 2 rfl
 go_wp2_with (at_builtin; refine wpList_append_row _ rfl _ _ 53 rfl 5 i0 _ 1 1 Tryz.underlying53 hi Z1.out Z2.out Z3.out rfl (by omega) (.slice a0 l.length c0) l.length (Lib.byteCells l) rfl (HA.out.row 2 rfl) (some ⟨w1.heap.size, 0, none⟩) 1 1 [.int .u8 c.toNat] rfl HR.out (by simp [Value.oneCell']) (by unfold maxLen; omega) (by omega) ?_; intro v3 w3 hown3 hgrow3 hat3; have M3 := HA.out.grow 2 rfl hgrow3 hown3 hat3; obtain ⟨a3, c3, rfl, _⟩ := M3.val 2 rfl; have q3 := M3.cell 1 rfl 1 rfl; have f3 := M3.free 1 rfl 1; have HM3 := Tre.hid M3; clear M3 hown3 hgrow3 hat3)
 have HM4 := Tre.hid ((HM3.out.setCell 1 rfl 1 (.slice a3 (l.length + 1) c3)).del 0)
 generalize w3.setCell ⟨b, 1, none⟩ (.slice a3 (l.length + 1) c3) = w4 at HM4 ⊢
 clear q3 f3
 go_wp2_with fail
 go_ret
 refine ⟨rfl, .slice a3 (l.length + 1) c3, ?_⟩
 rw [Lib.byteCells_append]
 exact HM4.out
theorem wByteD {w0 w : World} {b : Nat} {l : List UInt8} {rs : List Res} (c : UInt8) (fm : FrameMode) (h : BldM w0 w b l rs) (hlen : l.length + 1 ≤ 140737488355328) : CallsD Tryz.prog 28 #[.pointer (some ⟨b, 0, none⟩), .int .u8 c.toNat] fm w fun e u' w' => u' = fm ∧ e = .returned .nilIface ∧ BldM w0 w' b (l ++ [c]) rs := by
 obtain ⟨p, v, hp, m⟩ := h
 refine (writeByteD w0 rs b p v l c fm w m hp hlen).mono ?_
 rintro e u' w' ⟨rfl, rfl, v', m'⟩
 have e : (l ++ [c]).length = l.length + 1 := by simp
 exact ⟨rfl, rfl, _, v', .inr rfl, by rw [e]; exact m'⟩
end Go.Proofs.YtbafalfmgibnfaaGreatDoor.gr
