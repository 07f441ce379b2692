/- trefoillaw07.rename: a type with something behind its names. -/
import Derived.Test.YtljmcmdabdlldaaGreatDoorB36
import Derived.Test.YtljmcmdabdlldaaGreatDoorB34
import Derived.Test.YtljmcmdabdlldaaGreatDoorB06
set_option linter.unusedVariables false
namespace Go.Proofs.YtljmcmdabdlldaaGreatDoor.part
open Go.RowKit Go.Maps Go.Tre lex gr
theorem byte_cat (s z : List UInt8) : (⟨s.toArray⟩ : ByteArray) ++ ⟨z.toArray⟩ = ⟨(s ++ z).toArray⟩ := by
 apply ByteArray.ext
 simp
set_option maxRecDepth 100000 in
set_option maxHeartbeats 16000000 in
theorem rename_any (wb : World) (z : List UInt8) (hz : z.length ≤ 1000) (N : Nat) : ∀ (t : Ty) (O : Nat → Prop) (v : Value) (w : World), t.weight ≤ N → t.weight ≤ 1000000 → TyIn wb O t v → (∀ b, O b → b < wb.heap.size) → Below wb.heap.size wb w →
  Calls Tryz.prog 15 #[v, .string ⟨z.toArray⟩] w fun e w' => ∃ (own : Nat → Prop) (aa al : Option Addr) (ca cl : Nat),
   e = .returned (.agg #[.int .i64 ((renT z t).kind : Int), .string ⟨(renT z t).s.toArray⟩, .slice aa (renT z t).args.length ca, .slice al (renT z t).labels.length cl, .bool (renT z t).opn]) ∧
   Mem w w' [renR wb O own (renT z t) (.agg #[.int .i64 ((renT z t).kind : Int), .string ⟨(renT z t).s.toArray⟩, .slice aa (renT z t).args.length ca, .slice al (renT z t).labels.length cl, .bool (renT z t).opn])] := by
 induction N with
 | zero =>
  intro t O v w h
  have := weight_pos t
  omega
 | succ N ih =>
  intro t O v w hN hW hT hO hB0
  cases hT with
  | @mk _ k s args labels o aa ca al cl V OO hc hl hlab hcell hsub hdis hargs =>
  rw [Ty.weight] at hN hW
  have IH := Tre.hid ih
  have HCE := Tre.hid hcell
  have HAR := Tre.hid hargs
  have HO := Tre.hid hO
  have HSU := Tre.hid hsub
  have HDI := Tre.hid hdis
  have HLAB := Tre.hid hlab
  have HB0 := Tre.hid hB0
  have hal : args.length ≤ 1000000 := Nat.le_trans (weights_len args) (by omega)
  have hwN : weights args ≤ N := by omega
  have hwW : weights args ≤ 1000000 := by omega
  have hss : s.length ≤ 1000000 := by omega
  obtain ⟨s', hs'⟩ : ∃ s', (if k = 1 ∨ k = 4 then s ++ z else s) = s' := ⟨_, rfl⟩
  have HRT : Hid (renT z (.mk k s args labels o) = .mk k s' (renTs z args) labels o) := by show _ = _; rw [renT, hs']
  obtain ⟨ii, I1, I2, I3, I4⟩ := info_parts infoTy
  have HI1 := Tre.hid I1
  have HI2 := Tre.hid I2
  have HI3 := Tre.hid I3
  have HI4 := Tre.hid I4
  have M0 := ((Mem.nil w).allocR #[.int .i64 k, .string ⟨s.toArray⟩, .slice aa args.length ca, .slice al labels.length cl, .bool o] 28).allocR #[.int .i64 0, .string ⟨#[]⟩, .slice none 0 0, .slice none 0 0, .bool false] 28
  rw [World.size_alloc] at M0
  have hlenS : ¬ (9223372036854775807 < (s.length : Int) + (z.length : Int)) := by omega
  have hlenN : ¬ (9223372036854775807 < s.length + z.length) := by omega
  clear ih hcell hargs hO hsub hdis hlab hN hW hB0 hc I1 I2 I3 I4
  by_cases hk1 : k = 1
  ·have ek1 : ((k : Int) == 1) = true := by rw [hk1]; rfl
   have ek1p : ((k : Int) = 1) = True := by rw [hk1]; simp
   rw [if_pos (Or.inl hk1)] at hs'
   have hcat : (⟨s.toArray⟩ : ByteArray) ++ ⟨z.toArray⟩ = ⟨s'.toArray⟩ := by rw [← hs']; exact byte_cat s z
   clear hk1
   have HM2 := Tre.hid (((Mem.nil w).allocR #[.int .i64 k, .string ⟨s'.toArray⟩, .slice none 0 0, .slice al labels.length cl, .bool o] 28).allocR #[.int .i64 0, .string ⟨#[]⟩, .slice none 0 0, .slice none 0 0, .bool false] 28 |>.front 1 rfl)
   rw [World.size_alloc] at HM2
   clear hs' M0
   go_enter Tryz.func15, Tryz.ntmps15
   go_wp2_with fail
   generalize hW : ((w.alloc (.cells #[.int .i64 k, .string ⟨s'.toArray⟩, .slice none 0 0, .slice al labels.length cl, .bool o] 28)).alloc (.cells #[.int .i64 0, .string ⟨#[]⟩, .slice none 0 0, .slice none 0 0, .bool false] 28)) = W at HM2 ⊢
   obtain ⟨b4, hb4⟩ : ∃ b4, w.heap.size + 1 = b4 := ⟨_, rfl⟩
   obtain ⟨b2, hb2⟩ : ∃ b2, w.heap.size = b2 := ⟨_, rfl⟩
   rw [hb4, hb2] at HM2
   try rw [hb4]
   try rw [hb2]
   clear hW hb4 hb2 ek1 ek1p hcat hlenS hlenN
   go_loopw [26] (fun v26 wr => ∃ (q : Nat) (kids : List RKid) (aR : Option Addr) (cR : Nat), q ≤ args.length ∧ v26 = .int .i64 q ∧ kids.length = q ∧ Hid (kids.map RKid.t = renTs z (args.take q)) ∧ Hid (Mem w wr [rowR 28 5 (.slice aR q cR) q (rkidCells kids), sepR (rkidsFrom wb OO 0 kids), cellsR b2 28 #[.int .i64 k, .string ⟨s'.toArray⟩, .slice aR q cR, .slice al labels.length cl, .bool o], cellsR b4 28 #[.int .i64 0, .string ⟨#[]⟩, .slice none 0 0, .slice none 0 0, .bool false]])) (fun v26 _ => args.length - (intOf v26).toNat)
   case atStart => exact ⟨0, [], none, 0, Nat.zero_le _, rfl, rfl, by show _ = _; rw [List.take_zero]; rfl, ((HM2.out.sepNil).addNil 28 5)⟩
   case round =>
    clear HM2
    obtain ⟨q, kids, aR, cR, hq, rfl, hkl, hkt, HM⟩ := hrel
    by_cases hlt : q < args.length
    ·obtain ⟨tj, htj⟩ : ∃ tj, args[q]? = some tj := ⟨_, List.getElem?_eq_getElem hlt⟩
     obtain ⟨bA, oA, rfl, hob, _, hno, h5, hcc⟩ := HCE.out q hlt
     have hTj := HAR.out q tj htj
     obtain ⟨aj, cj, alj, clj, ej, _, _⟩ := hTj.agg
     have eV : V q = #[.int .i64 tj.kind, .string ⟨tj.s.toArray⟩, .slice aj tj.args.length cj, .slice alj tj.labels.length clj, .bool tj.opn] := by injection ej
     have hcell : ∀ (i : Nat) (u : Value), (V q)[i]? = some u → wr.cell? ⟨bA, oA + q * 5 + i, none⟩ = some u := fun i u hu => cell_below HM.out.below (cell_below HB0.out (hcc i u hu) |> fun h => h)
     rw [eV] at hcell hTj
     have z0 : wr.cell? ⟨bA, oA + q * 5, none⟩ = some (.int .i64 tj.kind) := hcell 0 _ rfl
     have z1 := hcell 1 (.string ⟨tj.s.toArray⟩) rfl
     have z2 := hcell 2 (.slice aj tj.args.length cj) rfl
     have z3 := hcell 3 (.slice alj tj.labels.length clj) rfl
     have z4 := hcell 4 (.bool tj.opn) rfl
     have htk : renTs z (args.take (q + 1)) = renTs z (args.take q) ++ [renT z tj] := by
      have happ : ∀ l m : List Ty, renTs z (l ++ m) = renTs z l ++ renTs z m := fun l m => by
       induction l with
       | nil => simp [renTs]
       | cons x l ih => simp only [List.cons_append, renTs, ih]
      rw [show args.take (q + 1) = args.take q ++ [tj] by rw [List.take_add_one, htj]; rfl, happ]
      simp [renTs]
     have HTK := Tre.hid htk
     have HTJ := Tre.hid hTj
     have hwj := weights_at htj
     have hq64 : q ≤ 4194304 := by omega
     have M3 := HM.out.allocR #[.int .i64 (tj.kind : Int), .string ⟨tj.s.toArray⟩, .slice aj tj.args.length cj, .slice alj tj.labels.length clj, .bool tj.opn] 28
     clear HM hcc hcell hTj ej eV hob hno h5 htk htj
     go_wp2_with fail
     clear z0 z1 z2 z3 z4
     obtain ⟨b7, hb7⟩ : ∃ b7, wr.heap.size = b7 := ⟨_, rfl⟩
     rw [hb7] at M3
     try rw [hb7]
     clear hb7
     have cS : Cond (fun w' => w'.cell? ⟨b2, 2, none⟩ = some (.slice aR q cR) ∧ w'.cell? ⟨b7, 0, none⟩ = some (.int .i64 (tj.kind : Int)) ∧ w'.cell? ⟨b7, 1, none⟩ = some (.string ⟨tj.s.toArray⟩) ∧ w'.cell? ⟨b7, 2, none⟩ = some (.slice aj tj.args.length cj) ∧ w'.cell? ⟨b7, 3, none⟩ = some (.slice alj tj.labels.length clj) ∧ w'.cell? ⟨b7, 4, none⟩ = some (.bool tj.opn)) := ⟨⟩
     refine cS.keep [6, 8] ?_ (fun hH0 => ?_)
     ·exact ⟨M3.drew.cell 3 rfl 2 rfl, M3.drew.cell 0 rfl 0 rfl, M3.drew.cell 0 rfl 1 rfl, M3.drew.cell 0 rfl 2 rfl, M3.drew.cell 0 rfl 3 rfl, M3.drew.cell 0 rfl 4 rfl⟩
     have H0 := Tre.hid M3.drew
     generalize hq : World.drew _ = wq0 at H0 hH0 ⊢
     clear hq M3
     refine lPq 0 (some 30) (v := ?_) rfl ?_ (keep_of hH0) ?_
     rotate_left
     ·intro w; go_simp <;> with_reducible rfl
     try simp only [Act.put, zqf, zqg, zqh]
     refine lPq 3 (some 33) (v := ?_) rfl ?_ (keep_of hH0) ?_
     rotate_left
     ·intro w; go_simp <;> with_reducible rfl
     try simp only [Act.put, zqf, zqg, zqh]
     refine lTq 1 (some 31) (v := ?_) rfl ?_ hH0 ?_
     rotate_left
     ·intro w hSw; (try dsimp only at hSw); go_simp <;> with_reducible rfl
     try simp only [Act.put, zqf, zqg, zqh]
     refine lTq 2 (some 32) (v := ?_) rfl ?_ hH0 ?_
     rotate_left
     ·intro w hSw; (try dsimp only at hSw); go_simp <;> with_reducible rfl
     try simp only [Act.put, zqf, zqg, zqh]
     refine lOne 4 (by kernel_rfl) (LStep.op (fun K hK => ?_))
     go_simp
     refine (IH.out tj (OO q) _ wq0 (by omega) (by omega) HTJ.out (fun b hb => HO.out b (HSU.out q b hb)) (HB0.out.trans (H0.out.below.mono HB0.out.size))).mono ?_
     rintro e wq1 ⟨own, xa, xl, xca, xcl, rfl, mq⟩
     obtain ⟨rj, hrj⟩ : ∃ rj, renT z tj = rj := ⟨_, rfl⟩
     rw [hrj] at mq ⊢
     have HRJ := Tre.hid hrj
     have H1 := Tre.hid (H0.out.call mq)
     clear mq hrj
     (try dsimp only)
     refine hK.out _ _ ?_ (fun hH1 => ?_)
     ·exact ⟨H1.out.cell 4 rfl 2 rfl, H1.out.cell 1 rfl 0 rfl, H1.out.cell 1 rfl 1 rfl, H1.out.cell 1 rfl 2 rfl, H1.out.cell 1 rfl 3 rfl, H1.out.cell 1 rfl 4 rfl⟩
     clear hK K hH0
     try simp only [Act.put, zqf, zqg, zqh]
     refine lOne 5 (by kernel_rfl) (LStep.op (fun K hK => ?_))
     have MA := H1.out.allocRow #[.int .i64 (rj.kind : Int), .string ⟨rj.s.toArray⟩, .slice xa rj.args.length xca, .slice xl rj.labels.length xcl, .bool rj.opn] 28 5 1 (by unfold maxLen; omega) rfl
     go_simp
     generalize hnb : wq1.heap.size = nr at MA ⊢
     generalize hw : wq1.alloc (.cells #[.int .i64 (rj.kind : Int), .string ⟨rj.s.toArray⟩, .slice xa rj.args.length xca, .slice xl rj.labels.length xcl, .bool rj.opn] 28) = wq2 at MA ⊢
     have H2 := Tre.hid MA
     clear MA hw hnb
     refine hK.out _ _ ?_ (fun hH2 => ?_)
     ·exact ⟨H2.out.cell 5 rfl 2 rfl, H2.out.cell 2 rfl 0 rfl, H2.out.cell 2 rfl 1 rfl, H2.out.cell 2 rfl 2 rfl, H2.out.cell 2 rfl 3 rfl, H2.out.cell 2 rfl 4 rfl⟩
     clear hK K hH1
     try simp only [Act.put, zqf, zqg, zqh]
     refine lOne 6 (by kernel_rfl) (LFall.op (by kernel_rfl) (fun K hK => ?_))
     refine wp_append_row _ _ _ 25 (by rfl) 28 ii _ 5 80 Tryz.underlying25 HI1.out HI2.out HI3.out HI4.out rfl (by omega) (.slice aR q cR) q (rkidCells kids) (by rfl) (H2.out.row 3 rfl) (some ⟨nr, 0, none⟩) 1 1 [.int .i64 (rj.kind : Int), .string ⟨rj.s.toArray⟩, .slice xa rj.args.length xca, .slice xl rj.labels.length xcl, .bool rj.opn] (by rfl) ⟨rfl, fun j u hj => ⟨_, 0, rfl, by rw [Nat.zero_add]; exact H2.out.cellAt 0 rfl j hj⟩⟩ (by simp [Value.oneCell']) (by unfold maxLen; omega) (by omega) ?_
     intro v' wq3 hown4 hgrow4 hat4
     have M4 := H2.out.grow 3 rfl hgrow4 hown4 hat4
     obtain ⟨a4, c4, rfl, _⟩ := M4.val 3 rfl
     have H3 := Tre.hid M4
     clear M4 hown4 hgrow4 hat4
     refine hK.out _ _ ?_
     clear hK K hH2
     try simp only [Act.put, zqf]
     refine lPq 7 (some 37) (v := ?_) rfl ?_ (keep_fell (by kernel_rfl)) ?_
     rotate_left
     ·intro w; go_simp <;> with_reducible rfl
     try simp only [Act.put]
     refine lOne 8 (by kernel_rfl) (LFall.op (by kernel_rfl) (fun K hK => ?_))
     have g0 : wq3.cell? ⟨b2, 2, none⟩ = some (.slice aR q cR) := H3.out.cell 5 rfl 2 rfl
     have f0 := H3.out.free 5 rfl 2
     have H9 := H3.out.setCell 5 rfl 2 (.slice a4 (q + 1 : Nat) c4)
     go_simp
     generalize hw : wq3.setCell ⟨b2, 2, none⟩ (.slice a4 (q + 1 : Nat) c4) = wq4 at H9 ⊢
     have H4 := Tre.hid H9
     clear H9 hw g0 f0
     refine hK.out _ _ ?_
     clear hK K
     try simp only [Act.put, zqf, zqg, zqh]
     refine lDone (by kernel_rfl) ?_
     go_wp2_with fail
     go_roundw
     case rel =>
      refine ⟨q + 1, kids ++ [⟨rj, #[.int .i64 (rj.kind : Int), .string ⟨rj.s.toArray⟩, .slice xa rj.args.length xca, .slice xl rj.labels.length xcl, .bool rj.opn], own⟩], a4, c4, by omega, by go_num, by simp [hkl], ?_, ?_⟩
      ·show _ = _
       rw [List.map_append, hkt.out, HTK.out, HRJ.out]; rfl
      ·show Mem _ _ _
       rw [rkids_snoc, Nat.zero_add, hkl]
       have e1 : rkidCells (kids ++ [⟨rj, #[.int .i64 (rj.kind : Int), .string ⟨rj.s.toArray⟩, .slice xa rj.args.length xca, .slice xl rj.labels.length xcl, .bool rj.opn], own⟩]) = rkidCells kids ++ [.int .i64 (rj.kind : Int), .string ⟨rj.s.toArray⟩, .slice xa rj.args.length xca, .slice xl rj.labels.length xcl, .bool rj.opn] := by simp [rkidCells]
       rw [e1]
       have h1 := (((((((H4.out.front 2 rfl).front 1 rfl).front 6 rfl).front 6 rfl).front 5 rfl).front 6 rfl).front 6 rfl)
       have h2 := (Mem.sepInto h1).front 1 rfl
       exact (h2.sub (List.Sublist.cons_cons _ (List.Sublist.cons_cons _ (List.Sublist.cons_cons _ (List.Sublist.cons_cons _ (List.nil_sublist _))))))
     case measure => simp [intOf]; omega
    ·have hqn : args.length = q := by omega
     have e1 : args.take q = args := List.take_of_length_le (by omega)
     have hk := hkt.out
     rw [e1] at hk
     have HKT := Tre.hid hk
     have y0 := HM.out.cell 2 rfl 0 rfl
     have y1 := HM.out.cell 2 rfl 1 rfl
     have y2 := HM.out.cell 2 rfl 2 rfl
     have y3 := HM.out.cell 2 rfl 3 rfl
     have y4 := HM.out.cell 2 rfl 4 rfl
     have r0 := HM.out.cell 3 rfl 0 rfl
     have r1 := HM.out.cell 3 rfl 1 rfl
     have r2 := HM.out.cell 3 rfl 2 rfl
     have r3 := HM.out.cell 3 rfl 3 rfl
     have r4 := HM.out.cell 3 rfl 4 rfl
     have f0 := HM.out.free 3 rfl 0
     have f1 := HM.out.free 3 rfl 1
     have f2 := HM.out.free 3 rfl 2
     have f3 := HM.out.free 3 rfl 3
     have f4 := HM.out.free 3 rfl 4
     have HM9 := Tre.hid (((((HM.out.setCell 3 rfl 0 (.int .i64 (k : Int))).setCell 3 rfl 1 (.string ⟨s'.toArray⟩)).setCell 3 rfl 2 (.slice aR q cR)).setCell 3 rfl 3 (.slice al labels.length cl)).setCell 3 rfl 4 (.bool o))
     have hqI : ¬ (q : Int) < (args.length : Int) := by omega
     clear HM hkt hk e1
     go_wp2_with fail
     generalize ((((wr.setCell ⟨b4, 0, none⟩ (.int .i64 (k : Int))).setCell ⟨b4, 1, none⟩ (.string ⟨s'.toArray⟩)).setCell ⟨b4, 2, none⟩ (.slice aR q cR)).setCell ⟨b4, 3, none⟩ (.slice al labels.length cl)).setCell ⟨b4, 4, none⟩ (.bool o) = wz at HM9 ⊢
     have z0 : wz.cell? ⟨b4, 0, none⟩ = some (.int .i64 (k : Int)) := HM9.out.cell 3 rfl 0 rfl
     have z1 : wz.cell? ⟨b4, 1, none⟩ = some (.string ⟨s'.toArray⟩) := HM9.out.cell 3 rfl 1 rfl
     have z2 : wz.cell? ⟨b4, 2, none⟩ = some (.slice aR q cR) := HM9.out.cell 3 rfl 2 rfl
     have z3 : wz.cell? ⟨b4, 3, none⟩ = some (.slice al labels.length cl) := HM9.out.cell 3 rfl 3 rfl
     have z4 : wz.cell? ⟨b4, 4, none⟩ = some (.bool o) := HM9.out.cell 3 rfl 4 rfl
     refine bodyPost_ret (v := .agg #[.int .i64 (k : Int), .string ⟨s'.toArray⟩, .slice aR q cR, .slice al labels.length cl, .bool o]) (by simp [results, Tryz.results15, go_sem, z0, z1, z2, z3, z4]) rfl ?_
     have HQ := HM9.out
     subst hkl
     obtain ⟨own, MW⟩ := Mem.renMake (labels := labels) k s' o HQ HB0.out HO.out hl HLAB.out HSU.out HDI.out
     rw [HKT.out] at MW
     have hrt := HRT.out
     rw [hrt]
     have hlr : (renTs z args).length = kids.length := by rw [← HKT.out, List.length_map]
     refine ⟨own, aR, al, cR, cl, ?_, ?_⟩
     ·simp only [Ty.kind, Ty.s, Ty.args, Ty.labels, Ty.opn, hlr]
     ·simp only [Ty.kind, Ty.s, Ty.args, Ty.labels, Ty.opn, hlr]
      exact MW.sub (List.Sublist.cons_cons _ (List.nil_sublist _))
  by_cases hk4 : k = 4
  ·have ek1 : ((k : Int) == 1) = false := beq_eq_false_iff_ne.2 (by omega)
   have ek1p : ((k : Int) = 1) = False := by simp; omega
   have ek4 : ((k : Int) == 4) = true := by rw [hk4]; rfl
   have ek4p : ((k : Int) = 4) = True := by rw [hk4]; simp
   rw [if_pos (Or.inr hk4)] at hs'
   have hcat : (⟨s.toArray⟩ : ByteArray) ++ ⟨z.toArray⟩ = ⟨s'.toArray⟩ := by rw [← hs']; exact byte_cat s z
   clear hk1 hk4
   have HM2 := Tre.hid (((Mem.nil w).allocR #[.int .i64 k, .string ⟨s'.toArray⟩, .slice none 0 0, .slice al labels.length cl, .bool o] 28).allocR #[.int .i64 0, .string ⟨#[]⟩, .slice none 0 0, .slice none 0 0, .bool false] 28 |>.front 1 rfl)
   rw [World.size_alloc] at HM2
   clear hs' M0
   go_enter Tryz.func15, Tryz.ntmps15
   go_wp2_with fail
   generalize hW : ((w.alloc (.cells #[.int .i64 k, .string ⟨s'.toArray⟩, .slice none 0 0, .slice al labels.length cl, .bool o] 28)).alloc (.cells #[.int .i64 0, .string ⟨#[]⟩, .slice none 0 0, .slice none 0 0, .bool false] 28)) = W at HM2 ⊢
   obtain ⟨b4, hb4⟩ : ∃ b4, w.heap.size + 1 = b4 := ⟨_, rfl⟩
   obtain ⟨b2, hb2⟩ : ∃ b2, w.heap.size = b2 := ⟨_, rfl⟩
   rw [hb4, hb2] at HM2
   try rw [hb4]
   try rw [hb2]
   clear hW hb4 hb2 ek1 ek1p ek4 ek4p hcat hlenS hlenN
   go_loopw [26] (fun v26 wr => ∃ (q : Nat) (kids : List RKid) (aR : Option Addr) (cR : Nat), q ≤ args.length ∧ v26 = .int .i64 q ∧ kids.length = q ∧ Hid (kids.map RKid.t = renTs z (args.take q)) ∧ Hid (Mem w wr [rowR 28 5 (.slice aR q cR) q (rkidCells kids), sepR (rkidsFrom wb OO 0 kids), cellsR b2 28 #[.int .i64 k, .string ⟨s'.toArray⟩, .slice aR q cR, .slice al labels.length cl, .bool o], cellsR b4 28 #[.int .i64 0, .string ⟨#[]⟩, .slice none 0 0, .slice none 0 0, .bool false]])) (fun v26 _ => args.length - (intOf v26).toNat)
   case atStart => exact ⟨0, [], none, 0, Nat.zero_le _, rfl, rfl, by show _ = _; rw [List.take_zero]; rfl, ((HM2.out.sepNil).addNil 28 5)⟩
   case round =>
    clear HM2
    obtain ⟨q, kids, aR, cR, hq, rfl, hkl, hkt, HM⟩ := hrel
    by_cases hlt : q < args.length
    ·obtain ⟨tj, htj⟩ : ∃ tj, args[q]? = some tj := ⟨_, List.getElem?_eq_getElem hlt⟩
     obtain ⟨bA, oA, rfl, hob, _, hno, h5, hcc⟩ := HCE.out q hlt
     have hTj := HAR.out q tj htj
     obtain ⟨aj, cj, alj, clj, ej, _, _⟩ := hTj.agg
     have eV : V q = #[.int .i64 tj.kind, .string ⟨tj.s.toArray⟩, .slice aj tj.args.length cj, .slice alj tj.labels.length clj, .bool tj.opn] := by injection ej
     have hcell : ∀ (i : Nat) (u : Value), (V q)[i]? = some u → wr.cell? ⟨bA, oA + q * 5 + i, none⟩ = some u := fun i u hu => cell_below HM.out.below (cell_below HB0.out (hcc i u hu) |> fun h => h)
     rw [eV] at hcell hTj
     have z0 : wr.cell? ⟨bA, oA + q * 5, none⟩ = some (.int .i64 tj.kind) := hcell 0 _ rfl
     have z1 := hcell 1 (.string ⟨tj.s.toArray⟩) rfl
     have z2 := hcell 2 (.slice aj tj.args.length cj) rfl
     have z3 := hcell 3 (.slice alj tj.labels.length clj) rfl
     have z4 := hcell 4 (.bool tj.opn) rfl
     have htk : renTs z (args.take (q + 1)) = renTs z (args.take q) ++ [renT z tj] := by
      have happ : ∀ l m : List Ty, renTs z (l ++ m) = renTs z l ++ renTs z m := fun l m => by
       induction l with
       | nil => simp [renTs]
       | cons x l ih => simp only [List.cons_append, renTs, ih]
      rw [show args.take (q + 1) = args.take q ++ [tj] by rw [List.take_add_one, htj]; rfl, happ]
      simp [renTs]
     have HTK := Tre.hid htk
     have HTJ := Tre.hid hTj
     have hwj := weights_at htj
     have hq64 : q ≤ 4194304 := by omega
     have M3 := HM.out.allocR #[.int .i64 (tj.kind : Int), .string ⟨tj.s.toArray⟩, .slice aj tj.args.length cj, .slice alj tj.labels.length clj, .bool tj.opn] 28
     clear HM hcc hcell hTj ej eV hob hno h5 htk htj
     go_wp2_with fail
     clear z0 z1 z2 z3 z4
     obtain ⟨b7, hb7⟩ : ∃ b7, wr.heap.size = b7 := ⟨_, rfl⟩
     rw [hb7] at M3
     try rw [hb7]
     clear hb7
     have cS : Cond (fun w' => w'.cell? ⟨b2, 2, none⟩ = some (.slice aR q cR) ∧ w'.cell? ⟨b7, 0, none⟩ = some (.int .i64 (tj.kind : Int)) ∧ w'.cell? ⟨b7, 1, none⟩ = some (.string ⟨tj.s.toArray⟩) ∧ w'.cell? ⟨b7, 2, none⟩ = some (.slice aj tj.args.length cj) ∧ w'.cell? ⟨b7, 3, none⟩ = some (.slice alj tj.labels.length clj) ∧ w'.cell? ⟨b7, 4, none⟩ = some (.bool tj.opn)) := ⟨⟩
     refine cS.keep [6, 8] ?_ (fun hH0 => ?_)
     ·exact ⟨M3.drew.cell 3 rfl 2 rfl, M3.drew.cell 0 rfl 0 rfl, M3.drew.cell 0 rfl 1 rfl, M3.drew.cell 0 rfl 2 rfl, M3.drew.cell 0 rfl 3 rfl, M3.drew.cell 0 rfl 4 rfl⟩
     have H0 := Tre.hid M3.drew
     generalize hq : World.drew _ = wq0 at H0 hH0 ⊢
     clear hq M3
     refine lPq 0 (some 30) (v := ?_) rfl ?_ (keep_of hH0) ?_
     rotate_left
     ·intro w; go_simp <;> with_reducible rfl
     try simp only [Act.put, zqf, zqg, zqh]
     refine lPq 3 (some 33) (v := ?_) rfl ?_ (keep_of hH0) ?_
     rotate_left
     ·intro w; go_simp <;> with_reducible rfl
     try simp only [Act.put, zqf, zqg, zqh]
     refine lTq 1 (some 31) (v := ?_) rfl ?_ hH0 ?_
     rotate_left
     ·intro w hSw; (try dsimp only at hSw); go_simp <;> with_reducible rfl
     try simp only [Act.put, zqf, zqg, zqh]
     refine lTq 2 (some 32) (v := ?_) rfl ?_ hH0 ?_
     rotate_left
     ·intro w hSw; (try dsimp only at hSw); go_simp <;> with_reducible rfl
     try simp only [Act.put, zqf, zqg, zqh]
     refine lOne 4 (by kernel_rfl) (LStep.op (fun K hK => ?_))
     go_simp
     refine (IH.out tj (OO q) _ wq0 (by omega) (by omega) HTJ.out (fun b hb => HO.out b (HSU.out q b hb)) (HB0.out.trans (H0.out.below.mono HB0.out.size))).mono ?_
     rintro e wq1 ⟨own, xa, xl, xca, xcl, rfl, mq⟩
     obtain ⟨rj, hrj⟩ : ∃ rj, renT z tj = rj := ⟨_, rfl⟩
     rw [hrj] at mq ⊢
     have HRJ := Tre.hid hrj
     have H1 := Tre.hid (H0.out.call mq)
     clear mq hrj
     (try dsimp only)
     refine hK.out _ _ ?_ (fun hH1 => ?_)
     ·exact ⟨H1.out.cell 4 rfl 2 rfl, H1.out.cell 1 rfl 0 rfl, H1.out.cell 1 rfl 1 rfl, H1.out.cell 1 rfl 2 rfl, H1.out.cell 1 rfl 3 rfl, H1.out.cell 1 rfl 4 rfl⟩
     clear hK K hH0
     try simp only [Act.put, zqf, zqg, zqh]
     refine lOne 5 (by kernel_rfl) (LStep.op (fun K hK => ?_))
     have MA := H1.out.allocRow #[.int .i64 (rj.kind : Int), .string ⟨rj.s.toArray⟩, .slice xa rj.args.length xca, .slice xl rj.labels.length xcl, .bool rj.opn] 28 5 1 (by unfold maxLen; omega) rfl
     go_simp
     generalize hnb : wq1.heap.size = nr at MA ⊢
     generalize hw : wq1.alloc (.cells #[.int .i64 (rj.kind : Int), .string ⟨rj.s.toArray⟩, .slice xa rj.args.length xca, .slice xl rj.labels.length xcl, .bool rj.opn] 28) = wq2 at MA ⊢
     have H2 := Tre.hid MA
     clear MA hw hnb
     refine hK.out _ _ ?_ (fun hH2 => ?_)
     ·exact ⟨H2.out.cell 5 rfl 2 rfl, H2.out.cell 2 rfl 0 rfl, H2.out.cell 2 rfl 1 rfl, H2.out.cell 2 rfl 2 rfl, H2.out.cell 2 rfl 3 rfl, H2.out.cell 2 rfl 4 rfl⟩
     clear hK K hH1
     try simp only [Act.put, zqf, zqg, zqh]
     refine lOne 6 (by kernel_rfl) (LFall.op (by kernel_rfl) (fun K hK => ?_))
     refine wp_append_row _ _ _ 25 (by rfl) 28 ii _ 5 80 Tryz.underlying25 HI1.out HI2.out HI3.out HI4.out rfl (by omega) (.slice aR q cR) q (rkidCells kids) (by rfl) (H2.out.row 3 rfl) (some ⟨nr, 0, none⟩) 1 1 [.int .i64 (rj.kind : Int), .string ⟨rj.s.toArray⟩, .slice xa rj.args.length xca, .slice xl rj.labels.length xcl, .bool rj.opn] (by rfl) ⟨rfl, fun j u hj => ⟨_, 0, rfl, by rw [Nat.zero_add]; exact H2.out.cellAt 0 rfl j hj⟩⟩ (by simp [Value.oneCell']) (by unfold maxLen; omega) (by omega) ?_
     intro v' wq3 hown4 hgrow4 hat4
     have M4 := H2.out.grow 3 rfl hgrow4 hown4 hat4
     obtain ⟨a4, c4, rfl, _⟩ := M4.val 3 rfl
     have H3 := Tre.hid M4
     clear M4 hown4 hgrow4 hat4
     refine hK.out _ _ ?_
     clear hK K hH2
     try simp only [Act.put, zqf]
     refine lPq 7 (some 37) (v := ?_) rfl ?_ (keep_fell (by kernel_rfl)) ?_
     rotate_left
     ·intro w; go_simp <;> with_reducible rfl
     try simp only [Act.put]
     refine lOne 8 (by kernel_rfl) (LFall.op (by kernel_rfl) (fun K hK => ?_))
     have g0 : wq3.cell? ⟨b2, 2, none⟩ = some (.slice aR q cR) := H3.out.cell 5 rfl 2 rfl
     have f0 := H3.out.free 5 rfl 2
     have H9 := H3.out.setCell 5 rfl 2 (.slice a4 (q + 1 : Nat) c4)
     go_simp
     generalize hw : wq3.setCell ⟨b2, 2, none⟩ (.slice a4 (q + 1 : Nat) c4) = wq4 at H9 ⊢
     have H4 := Tre.hid H9
     clear H9 hw g0 f0
     refine hK.out _ _ ?_
     clear hK K
     try simp only [Act.put, zqf, zqg, zqh]
     refine lDone (by kernel_rfl) ?_
     go_wp2_with fail
     go_roundw
     case rel =>
      refine ⟨q + 1, kids ++ [⟨rj, #[.int .i64 (rj.kind : Int), .string ⟨rj.s.toArray⟩, .slice xa rj.args.length xca, .slice xl rj.labels.length xcl, .bool rj.opn], own⟩], a4, c4, by omega, by go_num, by simp [hkl], ?_, ?_⟩
      ·show _ = _
       rw [List.map_append, hkt.out, HTK.out, HRJ.out]; rfl
      ·show Mem _ _ _
       rw [rkids_snoc, Nat.zero_add, hkl]
       have e1 : rkidCells (kids ++ [⟨rj, #[.int .i64 (rj.kind : Int), .string ⟨rj.s.toArray⟩, .slice xa rj.args.length xca, .slice xl rj.labels.length xcl, .bool rj.opn], own⟩]) = rkidCells kids ++ [.int .i64 (rj.kind : Int), .string ⟨rj.s.toArray⟩, .slice xa rj.args.length xca, .slice xl rj.labels.length xcl, .bool rj.opn] := by simp [rkidCells]
       rw [e1]
       have h1 := (((((((H4.out.front 2 rfl).front 1 rfl).front 6 rfl).front 6 rfl).front 5 rfl).front 6 rfl).front 6 rfl)
       have h2 := (Mem.sepInto h1).front 1 rfl
       exact (h2.sub (List.Sublist.cons_cons _ (List.Sublist.cons_cons _ (List.Sublist.cons_cons _ (List.Sublist.cons_cons _ (List.nil_sublist _))))))
     case measure => simp [intOf]; omega
    ·have hqn : args.length = q := by omega
     have e1 : args.take q = args := List.take_of_length_le (by omega)
     have hk := hkt.out
     rw [e1] at hk
     have HKT := Tre.hid hk
     have y0 := HM.out.cell 2 rfl 0 rfl
     have y1 := HM.out.cell 2 rfl 1 rfl
     have y2 := HM.out.cell 2 rfl 2 rfl
     have y3 := HM.out.cell 2 rfl 3 rfl
     have y4 := HM.out.cell 2 rfl 4 rfl
     have r0 := HM.out.cell 3 rfl 0 rfl
     have r1 := HM.out.cell 3 rfl 1 rfl
     have r2 := HM.out.cell 3 rfl 2 rfl
     have r3 := HM.out.cell 3 rfl 3 rfl
     have r4 := HM.out.cell 3 rfl 4 rfl
     have f0 := HM.out.free 3 rfl 0
     have f1 := HM.out.free 3 rfl 1
     have f2 := HM.out.free 3 rfl 2
     have f3 := HM.out.free 3 rfl 3
     have f4 := HM.out.free 3 rfl 4
     have HM9 := Tre.hid (((((HM.out.setCell 3 rfl 0 (.int .i64 (k : Int))).setCell 3 rfl 1 (.string ⟨s'.toArray⟩)).setCell 3 rfl 2 (.slice aR q cR)).setCell 3 rfl 3 (.slice al labels.length cl)).setCell 3 rfl 4 (.bool o))
     have hqI : ¬ (q : Int) < (args.length : Int) := by omega
     clear HM hkt hk e1
     go_wp2_with fail
     generalize ((((wr.setCell ⟨b4, 0, none⟩ (.int .i64 (k : Int))).setCell ⟨b4, 1, none⟩ (.string ⟨s'.toArray⟩)).setCell ⟨b4, 2, none⟩ (.slice aR q cR)).setCell ⟨b4, 3, none⟩ (.slice al labels.length cl)).setCell ⟨b4, 4, none⟩ (.bool o) = wz at HM9 ⊢
     have z0 : wz.cell? ⟨b4, 0, none⟩ = some (.int .i64 (k : Int)) := HM9.out.cell 3 rfl 0 rfl
     have z1 : wz.cell? ⟨b4, 1, none⟩ = some (.string ⟨s'.toArray⟩) := HM9.out.cell 3 rfl 1 rfl
     have z2 : wz.cell? ⟨b4, 2, none⟩ = some (.slice aR q cR) := HM9.out.cell 3 rfl 2 rfl
     have z3 : wz.cell? ⟨b4, 3, none⟩ = some (.slice al labels.length cl) := HM9.out.cell 3 rfl 3 rfl
     have z4 : wz.cell? ⟨b4, 4, none⟩ = some (.bool o) := HM9.out.cell 3 rfl 4 rfl
     refine bodyPost_ret (v := .agg #[.int .i64 (k : Int), .string ⟨s'.toArray⟩, .slice aR q cR, .slice al labels.length cl, .bool o]) (by simp [results, Tryz.results15, go_sem, z0, z1, z2, z3, z4]) rfl ?_
     have HQ := HM9.out
     subst hkl
     obtain ⟨own, MW⟩ := Mem.renMake (labels := labels) k s' o HQ HB0.out HO.out hl HLAB.out HSU.out HDI.out
     rw [HKT.out] at MW
     have hrt := HRT.out
     rw [hrt]
     have hlr : (renTs z args).length = kids.length := by rw [← HKT.out, List.length_map]
     refine ⟨own, aR, al, cR, cl, ?_, ?_⟩
     ·simp only [Ty.kind, Ty.s, Ty.args, Ty.labels, Ty.opn, hlr]
     ·simp only [Ty.kind, Ty.s, Ty.args, Ty.labels, Ty.opn, hlr]
      exact MW.sub (List.Sublist.cons_cons _ (List.nil_sublist _))
  ·have ek1 : ((k : Int) == 1) = false := beq_eq_false_iff_ne.2 (by omega)
   have ek1p : ((k : Int) = 1) = False := by simp; omega
   have ek4 : ((k : Int) == 4) = false := beq_eq_false_iff_ne.2 (by omega)
   have ek4p : ((k : Int) = 4) = False := by simp; omega
   rw [if_neg (by omega)] at hs'
   subst hs'
   clear hk1 hk4
   have HM2 := Tre.hid (((Mem.nil w).allocR #[.int .i64 k, .string ⟨s.toArray⟩, .slice none 0 0, .slice al labels.length cl, .bool o] 28).allocR #[.int .i64 0, .string ⟨#[]⟩, .slice none 0 0, .slice none 0 0, .bool false] 28 |>.front 1 rfl)
   rw [World.size_alloc] at HM2
   clear M0
   go_enter Tryz.func15, Tryz.ntmps15
   go_wp2_with fail
   generalize hW : ((w.alloc (.cells #[.int .i64 k, .string ⟨s.toArray⟩, .slice none 0 0, .slice al labels.length cl, .bool o] 28)).alloc (.cells #[.int .i64 0, .string ⟨#[]⟩, .slice none 0 0, .slice none 0 0, .bool false] 28)) = W at HM2 ⊢
   obtain ⟨b4, hb4⟩ : ∃ b4, w.heap.size + 1 = b4 := ⟨_, rfl⟩
   obtain ⟨b2, hb2⟩ : ∃ b2, w.heap.size = b2 := ⟨_, rfl⟩
   rw [hb4, hb2] at HM2
   try rw [hb4]
   try rw [hb2]
   clear hW hb4 hb2 ek1 ek1p ek4 ek4p hlenS hlenN
   go_loopw [26] (fun v26 wr => ∃ (q : Nat) (kids : List RKid) (aR : Option Addr) (cR : Nat), q ≤ args.length ∧ v26 = .int .i64 q ∧ kids.length = q ∧ Hid (kids.map RKid.t = renTs z (args.take q)) ∧ Hid (Mem w wr [rowR 28 5 (.slice aR q cR) q (rkidCells kids), sepR (rkidsFrom wb OO 0 kids), cellsR b2 28 #[.int .i64 k, .string ⟨s.toArray⟩, .slice aR q cR, .slice al labels.length cl, .bool o], cellsR b4 28 #[.int .i64 0, .string ⟨#[]⟩, .slice none 0 0, .slice none 0 0, .bool false]])) (fun v26 _ => args.length - (intOf v26).toNat)
   case atStart => exact ⟨0, [], none, 0, Nat.zero_le _, rfl, rfl, by show _ = _; rw [List.take_zero]; rfl, ((HM2.out.sepNil).addNil 28 5)⟩
   case round =>
    clear HM2
    obtain ⟨q, kids, aR, cR, hq, rfl, hkl, hkt, HM⟩ := hrel
    by_cases hlt : q < args.length
    ·obtain ⟨tj, htj⟩ : ∃ tj, args[q]? = some tj := ⟨_, List.getElem?_eq_getElem hlt⟩
     obtain ⟨bA, oA, rfl, hob, _, hno, h5, hcc⟩ := HCE.out q hlt
     have hTj := HAR.out q tj htj
     obtain ⟨aj, cj, alj, clj, ej, _, _⟩ := hTj.agg
     have eV : V q = #[.int .i64 tj.kind, .string ⟨tj.s.toArray⟩, .slice aj tj.args.length cj, .slice alj tj.labels.length clj, .bool tj.opn] := by injection ej
     have hcell : ∀ (i : Nat) (u : Value), (V q)[i]? = some u → wr.cell? ⟨bA, oA + q * 5 + i, none⟩ = some u := fun i u hu => cell_below HM.out.below (cell_below HB0.out (hcc i u hu) |> fun h => h)
     rw [eV] at hcell hTj
     have z0 : wr.cell? ⟨bA, oA + q * 5, none⟩ = some (.int .i64 tj.kind) := hcell 0 _ rfl
     have z1 := hcell 1 (.string ⟨tj.s.toArray⟩) rfl
     have z2 := hcell 2 (.slice aj tj.args.length cj) rfl
     have z3 := hcell 3 (.slice alj tj.labels.length clj) rfl
     have z4 := hcell 4 (.bool tj.opn) rfl
     have htk : renTs z (args.take (q + 1)) = renTs z (args.take q) ++ [renT z tj] := by
      have happ : ∀ l m : List Ty, renTs z (l ++ m) = renTs z l ++ renTs z m := fun l m => by
       induction l with
       | nil => simp [renTs]
       | cons x l ih => simp only [List.cons_append, renTs, ih]
      rw [show args.take (q + 1) = args.take q ++ [tj] by rw [List.take_add_one, htj]; rfl, happ]
      simp [renTs]
     have HTK := Tre.hid htk
     have HTJ := Tre.hid hTj
     have hwj := weights_at htj
     have hq64 : q ≤ 4194304 := by omega
     have M3 := HM.out.allocR #[.int .i64 (tj.kind : Int), .string ⟨tj.s.toArray⟩, .slice aj tj.args.length cj, .slice alj tj.labels.length clj, .bool tj.opn] 28
     clear HM hcc hcell hTj ej eV hob hno h5 htk htj
     go_wp2_with fail
     clear z0 z1 z2 z3 z4
     obtain ⟨b7, hb7⟩ : ∃ b7, wr.heap.size = b7 := ⟨_, rfl⟩
     rw [hb7] at M3
     try rw [hb7]
     clear hb7
     have cS : Cond (fun w' => w'.cell? ⟨b2, 2, none⟩ = some (.slice aR q cR) ∧ w'.cell? ⟨b7, 0, none⟩ = some (.int .i64 (tj.kind : Int)) ∧ w'.cell? ⟨b7, 1, none⟩ = some (.string ⟨tj.s.toArray⟩) ∧ w'.cell? ⟨b7, 2, none⟩ = some (.slice aj tj.args.length cj) ∧ w'.cell? ⟨b7, 3, none⟩ = some (.slice alj tj.labels.length clj) ∧ w'.cell? ⟨b7, 4, none⟩ = some (.bool tj.opn)) := ⟨⟩
     refine cS.keep [6, 8] ?_ (fun hH0 => ?_)
     ·exact ⟨M3.drew.cell 3 rfl 2 rfl, M3.drew.cell 0 rfl 0 rfl, M3.drew.cell 0 rfl 1 rfl, M3.drew.cell 0 rfl 2 rfl, M3.drew.cell 0 rfl 3 rfl, M3.drew.cell 0 rfl 4 rfl⟩
     have H0 := Tre.hid M3.drew
     generalize hq : World.drew _ = wq0 at H0 hH0 ⊢
     clear hq M3
     refine lPq 0 (some 30) (v := ?_) rfl ?_ (keep_of hH0) ?_
     rotate_left
     ·intro w; go_simp <;> with_reducible rfl
     try simp only [Act.put, zqf, zqg, zqh]
     refine lPq 3 (some 33) (v := ?_) rfl ?_ (keep_of hH0) ?_
     rotate_left
     ·intro w; go_simp <;> with_reducible rfl
     try simp only [Act.put, zqf, zqg, zqh]
     refine lTq 1 (some 31) (v := ?_) rfl ?_ hH0 ?_
     rotate_left
     ·intro w hSw; (try dsimp only at hSw); go_simp <;> with_reducible rfl
     try simp only [Act.put, zqf, zqg, zqh]
     refine lTq 2 (some 32) (v := ?_) rfl ?_ hH0 ?_
     rotate_left
     ·intro w hSw; (try dsimp only at hSw); go_simp <;> with_reducible rfl
     try simp only [Act.put, zqf, zqg, zqh]
     refine lOne 4 (by kernel_rfl) (LStep.op (fun K hK => ?_))
     go_simp
     refine (IH.out tj (OO q) _ wq0 (by omega) (by omega) HTJ.out (fun b hb => HO.out b (HSU.out q b hb)) (HB0.out.trans (H0.out.below.mono HB0.out.size))).mono ?_
     rintro e wq1 ⟨own, xa, xl, xca, xcl, rfl, mq⟩
     obtain ⟨rj, hrj⟩ : ∃ rj, renT z tj = rj := ⟨_, rfl⟩
     rw [hrj] at mq ⊢
     have HRJ := Tre.hid hrj
     have H1 := Tre.hid (H0.out.call mq)
     clear mq hrj
     (try dsimp only)
     refine hK.out _ _ ?_ (fun hH1 => ?_)
     ·exact ⟨H1.out.cell 4 rfl 2 rfl, H1.out.cell 1 rfl 0 rfl, H1.out.cell 1 rfl 1 rfl, H1.out.cell 1 rfl 2 rfl, H1.out.cell 1 rfl 3 rfl, H1.out.cell 1 rfl 4 rfl⟩
     clear hK K hH0
     try simp only [Act.put, zqf, zqg, zqh]
     refine lOne 5 (by kernel_rfl) (LStep.op (fun K hK => ?_))
     have MA := H1.out.allocRow #[.int .i64 (rj.kind : Int), .string ⟨rj.s.toArray⟩, .slice xa rj.args.length xca, .slice xl rj.labels.length xcl, .bool rj.opn] 28 5 1 (by unfold maxLen; omega) rfl
     go_simp
     generalize hnb : wq1.heap.size = nr at MA ⊢
     generalize hw : wq1.alloc (.cells #[.int .i64 (rj.kind : Int), .string ⟨rj.s.toArray⟩, .slice xa rj.args.length xca, .slice xl rj.labels.length xcl, .bool rj.opn] 28) = wq2 at MA ⊢
     have H2 := Tre.hid MA
     clear MA hw hnb
     refine hK.out _ _ ?_ (fun hH2 => ?_)
     ·exact ⟨H2.out.cell 5 rfl 2 rfl, H2.out.cell 2 rfl 0 rfl, H2.out.cell 2 rfl 1 rfl, H2.out.cell 2 rfl 2 rfl, H2.out.cell 2 rfl 3 rfl, H2.out.cell 2 rfl 4 rfl⟩
     clear hK K hH1
     try simp only [Act.put, zqf, zqg, zqh]
     refine lOne 6 (by kernel_rfl) (LFall.op (by kernel_rfl) (fun K hK => ?_))
     refine wp_append_row _ _ _ 25 (by rfl) 28 ii _ 5 80 Tryz.underlying25 HI1.out HI2.out HI3.out HI4.out rfl (by omega) (.slice aR q cR) q (rkidCells kids) (by rfl) (H2.out.row 3 rfl) (some ⟨nr, 0, none⟩) 1 1 [.int .i64 (rj.kind : Int), .string ⟨rj.s.toArray⟩, .slice xa rj.args.length xca, .slice xl rj.labels.length xcl, .bool rj.opn] (by rfl) ⟨rfl, fun j u hj => ⟨_, 0, rfl, by rw [Nat.zero_add]; exact H2.out.cellAt 0 rfl j hj⟩⟩ (by simp [Value.oneCell']) (by unfold maxLen; omega) (by omega) ?_
     intro v' wq3 hown4 hgrow4 hat4
     have M4 := H2.out.grow 3 rfl hgrow4 hown4 hat4
     obtain ⟨a4, c4, rfl, _⟩ := M4.val 3 rfl
     have H3 := Tre.hid M4
     clear M4 hown4 hgrow4 hat4
     refine hK.out _ _ ?_
     clear hK K hH2
     try simp only [Act.put, zqf]
     refine lPq 7 (some 37) (v := ?_) rfl ?_ (keep_fell (by kernel_rfl)) ?_
     rotate_left
     ·intro w; go_simp <;> with_reducible rfl
     try simp only [Act.put]
     refine lOne 8 (by kernel_rfl) (LFall.op (by kernel_rfl) (fun K hK => ?_))
     have g0 : wq3.cell? ⟨b2, 2, none⟩ = some (.slice aR q cR) := H3.out.cell 5 rfl 2 rfl
     have f0 := H3.out.free 5 rfl 2
     have H9 := H3.out.setCell 5 rfl 2 (.slice a4 (q + 1 : Nat) c4)
     go_simp
     generalize hw : wq3.setCell ⟨b2, 2, none⟩ (.slice a4 (q + 1 : Nat) c4) = wq4 at H9 ⊢
     have H4 := Tre.hid H9
     clear H9 hw g0 f0
     refine hK.out _ _ ?_
     clear hK K
     try simp only [Act.put, zqf, zqg, zqh]
     refine lDone (by kernel_rfl) ?_
     go_wp2_with fail
     go_roundw
     case rel =>
      refine ⟨q + 1, kids ++ [⟨rj, #[.int .i64 (rj.kind : Int), .string ⟨rj.s.toArray⟩, .slice xa rj.args.length xca, .slice xl rj.labels.length xcl, .bool rj.opn], own⟩], a4, c4, by omega, by go_num, by simp [hkl], ?_, ?_⟩
      ·show _ = _
       rw [List.map_append, hkt.out, HTK.out, HRJ.out]; rfl
      ·show Mem _ _ _
       rw [rkids_snoc, Nat.zero_add, hkl]
       have e1 : rkidCells (kids ++ [⟨rj, #[.int .i64 (rj.kind : Int), .string ⟨rj.s.toArray⟩, .slice xa rj.args.length xca, .slice xl rj.labels.length xcl, .bool rj.opn], own⟩]) = rkidCells kids ++ [.int .i64 (rj.kind : Int), .string ⟨rj.s.toArray⟩, .slice xa rj.args.length xca, .slice xl rj.labels.length xcl, .bool rj.opn] := by simp [rkidCells]
       rw [e1]
       have h1 := (((((((H4.out.front 2 rfl).front 1 rfl).front 6 rfl).front 6 rfl).front 5 rfl).front 6 rfl).front 6 rfl)
       have h2 := (Mem.sepInto h1).front 1 rfl
       exact (h2.sub (List.Sublist.cons_cons _ (List.Sublist.cons_cons _ (List.Sublist.cons_cons _ (List.Sublist.cons_cons _ (List.nil_sublist _))))))
     case measure => simp [intOf]; omega
    ·have hqn : args.length = q := by omega
     have e1 : args.take q = args := List.take_of_length_le (by omega)
     have hk := hkt.out
     rw [e1] at hk
     have HKT := Tre.hid hk
     have y0 := HM.out.cell 2 rfl 0 rfl
     have y1 := HM.out.cell 2 rfl 1 rfl
     have y2 := HM.out.cell 2 rfl 2 rfl
     have y3 := HM.out.cell 2 rfl 3 rfl
     have y4 := HM.out.cell 2 rfl 4 rfl
     have r0 := HM.out.cell 3 rfl 0 rfl
     have r1 := HM.out.cell 3 rfl 1 rfl
     have r2 := HM.out.cell 3 rfl 2 rfl
     have r3 := HM.out.cell 3 rfl 3 rfl
     have r4 := HM.out.cell 3 rfl 4 rfl
     have f0 := HM.out.free 3 rfl 0
     have f1 := HM.out.free 3 rfl 1
     have f2 := HM.out.free 3 rfl 2
     have f3 := HM.out.free 3 rfl 3
     have f4 := HM.out.free 3 rfl 4
     have HM9 := Tre.hid (((((HM.out.setCell 3 rfl 0 (.int .i64 (k : Int))).setCell 3 rfl 1 (.string ⟨s.toArray⟩)).setCell 3 rfl 2 (.slice aR q cR)).setCell 3 rfl 3 (.slice al labels.length cl)).setCell 3 rfl 4 (.bool o))
     have hqI : ¬ (q : Int) < (args.length : Int) := by omega
     clear HM hkt hk e1
     go_wp2_with fail
     generalize ((((wr.setCell ⟨b4, 0, none⟩ (.int .i64 (k : Int))).setCell ⟨b4, 1, none⟩ (.string ⟨s.toArray⟩)).setCell ⟨b4, 2, none⟩ (.slice aR q cR)).setCell ⟨b4, 3, none⟩ (.slice al labels.length cl)).setCell ⟨b4, 4, none⟩ (.bool o) = wz at HM9 ⊢
     have z0 : wz.cell? ⟨b4, 0, none⟩ = some (.int .i64 (k : Int)) := HM9.out.cell 3 rfl 0 rfl
     have z1 : wz.cell? ⟨b4, 1, none⟩ = some (.string ⟨s.toArray⟩) := HM9.out.cell 3 rfl 1 rfl
     have z2 : wz.cell? ⟨b4, 2, none⟩ = some (.slice aR q cR) := HM9.out.cell 3 rfl 2 rfl
     have z3 : wz.cell? ⟨b4, 3, none⟩ = some (.slice al labels.length cl) := HM9.out.cell 3 rfl 3 rfl
     have z4 : wz.cell? ⟨b4, 4, none⟩ = some (.bool o) := HM9.out.cell 3 rfl 4 rfl
     refine bodyPost_ret (v := .agg #[.int .i64 (k : Int), .string ⟨s.toArray⟩, .slice aR q cR, .slice al labels.length cl, .bool o]) (by simp [results, Tryz.results15, go_sem, z0, z1, z2, z3, z4]) rfl ?_
     have HQ := HM9.out
     subst hkl
     obtain ⟨own, MW⟩ := Mem.renMake (labels := labels) k s o HQ HB0.out HO.out hl HLAB.out HSU.out HDI.out
     rw [HKT.out] at MW
     have hrt := HRT.out
     rw [hrt]
     have hlr : (renTs z args).length = kids.length := by rw [← HKT.out, List.length_map]
     refine ⟨own, aR, al, cR, cl, ?_, ?_⟩
     ·simp only [Ty.kind, Ty.s, Ty.args, Ty.labels, Ty.opn, hlr]
     ·simp only [Ty.kind, Ty.s, Ty.args, Ty.labels, Ty.opn, hlr]
      exact MW.sub (List.Sublist.cons_cons _ (List.nil_sublist _))
end Go.Proofs.YtljmcmdabdlldaaGreatDoor.part
