/- typ: the parser's atom, where it comes to a type. Layer 3, plain: the parser goes on. Layers 1 and 3, plain: texts out of tokens, blanks between; what they are told as. -/
import Derived.Test.YtbafalfmgibnfaaGreatDoorB12
import Derived.Test.YtbafalfmgibnfaaGreatDoorB13
import Derived.Test.YtbafalfmgibnfaaGreatDoorB00
set_option linter.unusedVariables false
namespace Go.Tre
def basicsB : List ByteArray := [⟨#[105, 110, 116]⟩, ⟨#[98, 111, 111, 108]⟩, ⟨#[115, 116, 114, 105, 110, 103]⟩, ⟨#[117, 110, 105, 116]⟩]
theorem basics_any {s : List UInt8} (h : basics.contains s = true) : (basicsB.any fun x => decide ((⟨s.toArray⟩ : ByteArray) = x)) = true := by
 rw [List.contains_iff_mem] at h
 unfold basics at h
 simp only [List.mem_cons, List.not_mem_nil, or_false] at h
 rcases h with rfl | rfl | rfl | rfl <;> decide
theorem pLevA (l : List Tok) (k i : Nat) : pLev l (k + 1) 3 i = match wd l i 5 with
   | some s => some (.mk 1 s [] [] false, i + 1)
   | none => match wd l i 1 with
    | some s => if basics.contains s then some (.mk 2 s [] [] false, i + 1) else none
    | none =>
     if tk l i 6 [40] then (pLev l k 0 (i + 1)).bind fun r => if tk l r.2 6 [41] then some (r.1, r.2 + 1) else none
     else if tk l i 6 [60] then (if tk l (i + 1) 6 [62] then some (.mk 3 [] [] [] false, i + 2) else pObj l k [] [] (i + 1))
     else none := by
 rw [pLev, if_neg (by omega), if_neg (by omega)]
 rfl
end Go.Tre
namespace Go.Proofs.YtbafalfmgibnfaaGreatDoor.typ
open Go.RowKit Go.Tre
def ObjAt (w0 : World) (b : Nat) (ad : Option Addr) (c : Nat) (l : List Tok) (k : Nat) : Prop :=
 ∀ (rs : List Res) (i j : Nat) (t : Ty) (w : World), i < l.length → (if tk l i 6 [62] then some (.mk 3 [] [] [] false, i + 1) else pObj l k [] [] i) = some (t, j) → Mem w0 w (parR b ad l.length c i :: rs) →
  Calls Tryz.prog 81 #[.pointer (some ⟨b, 0, none⟩)] w (LevPost w0 b ad c l rs t j)
set_option maxRecDepth 100000 in
set_option maxHeartbeats 8000000 in
theorem atom_any (w0 : World) (b : Nat) (ad : Option Addr) (c : Nat) (l : List Tok) (hl : ToksAt w0 ad l) (he : TokEnds l) (hll : l.length ≤ 4194304) (k : Nat) (ih : LevAt w0 b ad c l k) (ho : ObjAt w0 b ad c l k) (rs : List Res) (i j : Nat) (t : Ty) (w : World) (hi : i < l.length) (hp : pLev l (k + 1) 3 i = some (t, j)) (hM : Mem w0 w (parR b ad l.length c i :: rs)) :
  Calls Tryz.prog 62 #[.pointer (some ⟨b, 0, none⟩)] w (LevPost w0 b ad c l rs t j) := by
 rw [pLevA] at hp
 obtain ⟨q, hq⟩ : ∃ q, l[i]? = some q := ⟨_, List.getElem?_eq_getElem hi⟩
 have M0 := hM.allocR #[.int .i64 0, .string ⟨#[]⟩, .slice none 0 0, .slice none 0 0, .bool false] 28
 obtain ⟨bt, ot, rfl, a0, a1, a2, a3⟩ := (hl.below M0.below).tok hq
 obtain ⟨p0, p1⟩ := M0.two 1 rfl
 have HM := Tre.hid M0
 have HL := Tre.hid hl
 have HE := Tre.hid he
 have IH := Tre.hid ih
 have HO := Tre.hid ho
 have HQ := Tre.hid hq
 have HP := Tre.hid hp
 clear hM hl he ih ho hq hp M0
 go_enter Tryz.func62, Tryz.ntmps62
 go_wp2_with fail
 have cS : Cond (fun w' => w'.cell? ⟨b, 0, none⟩ = some (.slice (some ⟨bt, ot, none⟩) l.length c) ∧ w'.cell? ⟨b, 1, none⟩ = some (.int .i64 i) ∧ w'.cell? ⟨bt, ot + i * 4, none⟩ = some (.int .i64 q.kind) ∧ w'.cell? ⟨bt, ot + i * 4 + 1, none⟩ = some (.int .i64 q.at_) ∧ w'.cell? ⟨bt, ot + i * 4 + 2, none⟩ = some (.int .i64 q.n) ∧ w'.cell? ⟨bt, ot + i * 4 + 3, none⟩ = some (.string ⟨q.s.toArray⟩)) := ⟨⟩
 refine cS.keep [11] ?_ (fun hH0 => ?_)
 ·exact ⟨p0, p1, a0, a1, a2, a3⟩
 have H0 := Tre.hid HM.out.drew
 generalize hrb : w.heap.size = rb at H0 hH0 ⊢
 generalize hq0 : (w.alloc (.cells #[.int .i64 0, .string ⟨#[]⟩, .slice none 0 0, .slice none 0 0, .bool false] 28)).drew = wq0 at H0 hH0 ⊢
 clear hq0 hrb p0 p1 a0 a1 a2 a3 HM
 refine lPq 0 (some 5) (v := ?_) rfl ?_ (keep_of hH0) ?_
 rotate_left
 ·intro w; go_simp <;> with_reducible rfl
 try simp only [Act.put, zqf, zqg, zqh]
 refine lPq 1 (some 6) (v := ?_) rfl ?_ (keep_of hH0) ?_
 rotate_left
 ·intro w; go_simp <;> with_reducible rfl
 try simp only [Act.put, zqf, zqg, zqh]
 refine lPq 2 (some 7) (v := ?_) rfl ?_ (keep_of hH0) ?_
 rotate_left
 ·intro w; go_simp <;> with_reducible rfl
 try simp only [Act.put, zqf, zqg, zqh]
 refine lPq 4 (some 9) (v := ?_) rfl ?_ (keep_of hH0) ?_
 rotate_left
 ·intro w; go_simp <;> with_reducible rfl
 try simp only [Act.put, zqf, zqg, zqh]
 refine lPq 5 (some 10) (v := ?_) rfl ?_ (keep_of hH0) ?_
 rotate_left
 ·intro w; go_simp <;> with_reducible rfl
 try simp only [Act.put, zqf, zqg, zqh]
 refine lPq 6 (some 11) (v := ?_) rfl ?_ (keep_of hH0) ?_
 rotate_left
 ·intro w; go_simp <;> with_reducible rfl
 try simp only [Act.put, zqf, zqg, zqh]
 refine lTq 3 (some 8) (v := ?_) rfl ?_ hH0 ?_
 rotate_left
 ·intro w hSw; (try dsimp only at hSw); go_simp <;> with_reducible rfl
 try simp only [Act.put, zqf, zqg, zqh]
 refine lTq 7 (some 12) (v := ?_) rfl ?_ hH0 ?_
 rotate_left
 ·intro w hSw; (try dsimp only at hSw); go_simp <;> with_reducible rfl
 try simp only [Act.put, zqf, zqg, zqh]
 refine lPq 8 (some 13) (v := ?_) rfl ?_ (keep_of hH0) ?_
 rotate_left
 ·intro w; go_simp <;> with_reducible rfl
 try simp only [Act.put, zqf, zqg, zqh]
 refine lTq 9 (some 14) (v := ?_) rfl ?_ hH0 ?_
 rotate_left
 ·intro w hSw; (try dsimp only at hSw); go_simp <;> with_reducible rfl
 try simp only [Act.put, zqf, zqg, zqh]
 refine lOne 10 (by kernel_rfl) (LStep.op (fun K hK => ?_))
 have H9 := H0.out.allocR (tokV 0 0 0 ⟨#[]⟩) 92
 have K9 := (Below.refl wq0.heap.size wq0).alloc (Nat.le_refl _) (.cells (tokV 0 0 0 ⟨#[]⟩) 92)
 have k0 := cell_below K9 hH0.1
 have k1 := cell_below K9 hH0.2.1
 have k2 := cell_below K9 hH0.2.2.1
 have k3 := cell_below K9 hH0.2.2.2.1
 have k4 := cell_below K9 hH0.2.2.2.2.1
 have k5 := cell_below K9 hH0.2.2.2.2.2
 go_simp
 generalize htb : wq0.heap.size = qb at H9 ⊢
 generalize hw : wq0.alloc (.cells (tokV 0 0 0 ⟨#[]⟩) 92) = wq1 at H9 k0 k1 k2 k3 k4 k5 ⊢
 have H1 := Tre.hid H9
 have K0 := Tre.hid k0
 have K1 := Tre.hid k1
 have K2 := Tre.hid k2
 have K3 := Tre.hid k3
 have K4 := Tre.hid k4
 have K5 := Tre.hid k5
 clear H9 K9 hw htb k0 k1 k2 k3 k4 k5
 refine hK.out _ _ ?_ (fun hH1 => ?_)
 ·exact ⟨K0.out, K1.out, K2.out, K3.out, K4.out, K5.out⟩
 clear hK K hH0
 try simp only [Act.put, zqf, zqg, zqh]
 refine lOne 11 (by kernel_rfl) (LFall.op (by kernel_rfl) (fun K hK => ?_))
 have g0 := H1.out.cell 0 rfl 0 rfl
 have g1 := H1.out.cell 0 rfl 1 rfl
 have g2 := H1.out.cell 0 rfl 2 rfl
 have g3 := H1.out.cell 0 rfl 3 rfl
 have f0 := H1.out.free 0 rfl 0
 have f1 := H1.out.free 0 rfl 1
 have f2 := H1.out.free 0 rfl 2
 have f3 := H1.out.free 0 rfl 3
 have H9 := ((((H1.out.setCell 0 rfl 0 (.int .i64 q.kind)).setCell 0 rfl 1 (.int .i64 q.at_)).setCell 0 rfl 2 (.int .i64 q.n)).setCell 0 rfl 3 (.string ⟨q.s.toArray⟩))
 go_simp
 generalize hw : ((((wq1.setCell ⟨qb, 0, none⟩ (.int .i64 q.kind)).setCell ⟨qb, 1, none⟩ (.int .i64 q.at_)).setCell ⟨qb, 2, none⟩ (.int .i64 q.n)).setCell ⟨qb, 3, none⟩ (.string ⟨q.s.toArray⟩)) = wq2 at H9 ⊢
 have H2 : Hid (Mem w0 wq2 (cellsR qb 92 (tokV q.kind q.at_ q.n ⟨q.s.toArray⟩) :: cellsR rb 28 #[.int .i64 0, .string ⟨#[]⟩, .slice none 0 0, .slice none 0 0, .bool false] :: parR b (some ⟨bt, ot, none⟩) l.length c i :: rs)) := H9
 clear hw H9 g0 g1 g2 g3 f0 f1 f2 f3
 refine hK.out _ _ ?_
 clear hK K hH1
 try simp only [Act.put, zqf, zqg, zqh]
 refine lDone (by kernel_rfl) ?_
 have y0 := H2.out.cell 0 rfl 0 rfl
 have y3 := H2.out.cell 0 rfl 3 rfl
 by_cases hk5 : q.kind = 5
 ·have e5 : ((q.kind : Int) == 5) = true := by rw [hk5]; rfl
  have HW : Hid (wd l i 5 = some q.s) := by show _ = _; unfold wd; rw [HQ.out]; exact if_pos hk5
  have hp' := HP.out
  rw [HW.out] at hp'
  simp only [zqe, Prod.mk.injEq] at hp'
  obtain ⟨rfl, rfl⟩ := hp'
  clear hk5 HP
  go_wp2_with fail
  refine (word w0 _ b _ c l i 5 _ (H2.out.front 2 rfl) HL.out hi hll q.s HW.out).mono ?_
  rintro e w3 ⟨rfl, M3⟩
  have HJ := Tre.hid (wd_lt HE.out (by omega) HW.out)
  have HM3 := Tre.hid M3
  clear M3
  have MT : Mem w0 w3 (cellsR rb 28 #[.int .i64 0, .string ⟨#[]⟩, .slice none 0 0, .slice none 0 0, .bool false] :: _) := HM3.out.front 2 rfl
  have g0 : w3.cell? ⟨rb, 0, none⟩ = some (.int .i64 0) := MT.cell 0 rfl 0 rfl
  have g1 : w3.cell? ⟨rb, 1, none⟩ = some (.string ⟨#[]⟩) := MT.cell 0 rfl 1 rfl
  have g2 : w3.cell? ⟨rb, 2, none⟩ = some (.slice none 0 0) := MT.cell 0 rfl 2 rfl
  have g3 : w3.cell? ⟨rb, 3, none⟩ = some (.slice none 0 0) := MT.cell 0 rfl 3 rfl
  have g4 : w3.cell? ⟨rb, 4, none⟩ = some (.bool false) := MT.cell 0 rfl 4 rfl
  have f0 := MT.free 0 rfl 0
  have f1 := MT.free 0 rfl 1
  have f2 := MT.free 0 rfl 2
  have f3 := MT.free 0 rfl 3
  have f4 := MT.free 0 rfl 4
  have M6 : Mem w0 (((((w3.setCell ⟨rb, 0, none⟩ (.int .i64 1)).setCell ⟨rb, 1, none⟩ (.string ⟨q.s.toArray⟩)).setCell ⟨rb, 2, none⟩ (.slice none 0 0)).setCell ⟨rb, 3, none⟩ (.slice none 0 0)).setCell ⟨rb, 4, none⟩ (.bool false)) (cellsR rb 28 #[.int .i64 1, .string ⟨q.s.toArray⟩, .slice none 0 0, .slice none 0 0, .bool false] :: _) := (((((MT.setCell 0 rfl 0 (.int .i64 1)).setCell 0 rfl 1 (.string ⟨q.s.toArray⟩)).setCell 0 rfl 2 (.slice none 0 0)).setCell 0 rfl 3 (.slice none 0 0)).setCell 0 rfl 4 (.bool false))
  have HM6 := Tre.hid M6
  clear M6 MT
  go_wp2_with fail
  have z0 : (((((w3.setCell ⟨rb, 0, none⟩ (.int .i64 1)).setCell ⟨rb, 1, none⟩ (.string ⟨q.s.toArray⟩)).setCell ⟨rb, 2, none⟩ (.slice none 0 0)).setCell ⟨rb, 3, none⟩ (.slice none 0 0)).setCell ⟨rb, 4, none⟩ (.bool false)).cell? ⟨rb, 0, none⟩ = some (.int .i64 1) := HM6.out.cell 0 rfl 0 rfl
  have z1 : (((((w3.setCell ⟨rb, 0, none⟩ (.int .i64 1)).setCell ⟨rb, 1, none⟩ (.string ⟨q.s.toArray⟩)).setCell ⟨rb, 2, none⟩ (.slice none 0 0)).setCell ⟨rb, 3, none⟩ (.slice none 0 0)).setCell ⟨rb, 4, none⟩ (.bool false)).cell? ⟨rb, 1, none⟩ = some (.string ⟨q.s.toArray⟩) := HM6.out.cell 0 rfl 1 rfl
  have z2 : (((((w3.setCell ⟨rb, 0, none⟩ (.int .i64 1)).setCell ⟨rb, 1, none⟩ (.string ⟨q.s.toArray⟩)).setCell ⟨rb, 2, none⟩ (.slice none 0 0)).setCell ⟨rb, 3, none⟩ (.slice none 0 0)).setCell ⟨rb, 4, none⟩ (.bool false)).cell? ⟨rb, 2, none⟩ = some (.slice none 0 0) := HM6.out.cell 0 rfl 2 rfl
  have z3 : (((((w3.setCell ⟨rb, 0, none⟩ (.int .i64 1)).setCell ⟨rb, 1, none⟩ (.string ⟨q.s.toArray⟩)).setCell ⟨rb, 2, none⟩ (.slice none 0 0)).setCell ⟨rb, 3, none⟩ (.slice none 0 0)).setCell ⟨rb, 4, none⟩ (.bool false)).cell? ⟨rb, 3, none⟩ = some (.slice none 0 0) := HM6.out.cell 0 rfl 3 rfl
  have z4 : (((((w3.setCell ⟨rb, 0, none⟩ (.int .i64 1)).setCell ⟨rb, 1, none⟩ (.string ⟨q.s.toArray⟩)).setCell ⟨rb, 2, none⟩ (.slice none 0 0)).setCell ⟨rb, 3, none⟩ (.slice none 0 0)).setCell ⟨rb, 4, none⟩ (.bool false)).cell? ⟨rb, 4, none⟩ = some (.bool false) := HM6.out.cell 0 rfl 4 rfl
  refine bodyPost_ret (v := .agg #[.int .i64 1, .string ⟨q.s.toArray⟩, .slice none 0 0, .slice none 0 0, .bool false]) (by simp [results, Tryz.results62, go_sem, z0, z1, z2, z3, z4]) rfl ?_
  have HR := HM6.out.drop1
  exact ⟨_, none, 0, none, 0, rfl, HJ.out, Mem.tyMake (kids := []) (labels := []) 1 q.s false (((HR.del 1).addNil 9 1).addNil 28 5) rfl rfl rfl⟩
 ·have e5 : ((q.kind : Int) == 5) = false := beq_eq_false_iff_ne.2 (by omega)
  have HW5 : Hid (wd l i 5 = none) := by show _ = _; unfold wd; rw [HQ.out]; exact if_neg hk5
  by_cases hk1 : q.kind = 1
  ·have e1 : ((q.kind : Int) == 1) = true := by rw [hk1]; rfl
   have HW : Hid (wd l i 1 = some q.s) := by show _ = _; unfold wd; rw [HQ.out]; exact if_pos hk1
   have hp' := HP.out
   rw [HW5.out, HW.out] at hp'
   simp only at hp'
   have hbs : basics.contains q.s = true := by
    cases hb : basics.contains q.s
    ·rw [hb] at hp'; simp at hp'
    ·rfl
   rw [hbs, if_pos rfl] at hp'
   simp only [zqe, Prod.mk.injEq] at hp'
   obtain ⟨rfl, rfl⟩ := hp'
   have MR := (H2.out.allocRow #[.string ⟨#[105, 110, 116]⟩, .string ⟨#[98, 111, 111, 108]⟩, .string ⟨#[115, 116, 114, 105, 110, 103]⟩, .string ⟨#[117, 110, 105, 116]⟩] 9 1 4 (by unfold maxLen; omega) rfl)
   have HR := Tre.hid MR
   have y4 : (wq2.alloc (.cells #[.string ⟨#[105, 110, 116]⟩, .string ⟨#[98, 111, 111, 108]⟩, .string ⟨#[115, 116, 114, 105, 110, 103]⟩, .string ⟨#[117, 110, 105, 116]⟩] 9)).cell? ⟨qb, 3, none⟩ = some (.string ⟨q.s.toArray⟩) := MR.cell 1 rfl 3 rfl
   have HSA : Hid (StrsAt (wq2.alloc (.cells #[.string ⟨#[105, 110, 116]⟩, .string ⟨#[98, 111, 111, 108]⟩, .string ⟨#[115, 116, 114, 105, 110, 103]⟩, .string ⟨#[117, 110, 105, 116]⟩] 9)) (some ⟨wq2.heap.size, 0, none⟩) basicsB) := ⟨rfl, fun j u hj => ⟨_, 0, rfl, by rw [Nat.zero_add]; exact MR.cellAt 0 rfl j hj⟩⟩
   have HBS := Tre.hid (basics_any hbs)
   clear hk1 hbs HP MR hk5
   go_wp2_with fail
   refine (containsStrs _ 4 basicsB ⟨q.s.toArray⟩ _ HSA.out (by decide) true HBS.out).mono ?_
   rintro e w2 ⟨rfl, rfl⟩
   go_wp2_with fail
   refine (word w0 _ b _ c l i 1 _ ((H2.out.alloc _).front 2 rfl) HL.out hi hll q.s HW.out).mono ?_
   rintro e w3 ⟨rfl, M3⟩
   have HJ := Tre.hid (wd_lt HE.out (by omega) HW.out)
   have HM3 := Tre.hid M3
   clear M3
   have MT : Mem w0 w3 (cellsR rb 28 #[.int .i64 0, .string ⟨#[]⟩, .slice none 0 0, .slice none 0 0, .bool false] :: _) := HM3.out.front 2 rfl
   have g0 : w3.cell? ⟨rb, 0, none⟩ = some (.int .i64 0) := MT.cell 0 rfl 0 rfl
   have g1 : w3.cell? ⟨rb, 1, none⟩ = some (.string ⟨#[]⟩) := MT.cell 0 rfl 1 rfl
   have g2 : w3.cell? ⟨rb, 2, none⟩ = some (.slice none 0 0) := MT.cell 0 rfl 2 rfl
   have g3 : w3.cell? ⟨rb, 3, none⟩ = some (.slice none 0 0) := MT.cell 0 rfl 3 rfl
   have g4 : w3.cell? ⟨rb, 4, none⟩ = some (.bool false) := MT.cell 0 rfl 4 rfl
   have f0 := MT.free 0 rfl 0
   have f1 := MT.free 0 rfl 1
   have f2 := MT.free 0 rfl 2
   have f3 := MT.free 0 rfl 3
   have f4 := MT.free 0 rfl 4
   have M6 : Mem w0 (((((w3.setCell ⟨rb, 0, none⟩ (.int .i64 2)).setCell ⟨rb, 1, none⟩ (.string ⟨q.s.toArray⟩)).setCell ⟨rb, 2, none⟩ (.slice none 0 0)).setCell ⟨rb, 3, none⟩ (.slice none 0 0)).setCell ⟨rb, 4, none⟩ (.bool false)) (cellsR rb 28 #[.int .i64 2, .string ⟨q.s.toArray⟩, .slice none 0 0, .slice none 0 0, .bool false] :: _) := (((((MT.setCell 0 rfl 0 (.int .i64 2)).setCell 0 rfl 1 (.string ⟨q.s.toArray⟩)).setCell 0 rfl 2 (.slice none 0 0)).setCell 0 rfl 3 (.slice none 0 0)).setCell 0 rfl 4 (.bool false))
   have HM6 := Tre.hid M6
   clear M6 MT
   go_wp2_with fail
   have z0 : (((((w3.setCell ⟨rb, 0, none⟩ (.int .i64 2)).setCell ⟨rb, 1, none⟩ (.string ⟨q.s.toArray⟩)).setCell ⟨rb, 2, none⟩ (.slice none 0 0)).setCell ⟨rb, 3, none⟩ (.slice none 0 0)).setCell ⟨rb, 4, none⟩ (.bool false)).cell? ⟨rb, 0, none⟩ = some (.int .i64 2) := HM6.out.cell 0 rfl 0 rfl
   have z1 : (((((w3.setCell ⟨rb, 0, none⟩ (.int .i64 2)).setCell ⟨rb, 1, none⟩ (.string ⟨q.s.toArray⟩)).setCell ⟨rb, 2, none⟩ (.slice none 0 0)).setCell ⟨rb, 3, none⟩ (.slice none 0 0)).setCell ⟨rb, 4, none⟩ (.bool false)).cell? ⟨rb, 1, none⟩ = some (.string ⟨q.s.toArray⟩) := HM6.out.cell 0 rfl 1 rfl
   have z2 : (((((w3.setCell ⟨rb, 0, none⟩ (.int .i64 2)).setCell ⟨rb, 1, none⟩ (.string ⟨q.s.toArray⟩)).setCell ⟨rb, 2, none⟩ (.slice none 0 0)).setCell ⟨rb, 3, none⟩ (.slice none 0 0)).setCell ⟨rb, 4, none⟩ (.bool false)).cell? ⟨rb, 2, none⟩ = some (.slice none 0 0) := HM6.out.cell 0 rfl 2 rfl
   have z3 : (((((w3.setCell ⟨rb, 0, none⟩ (.int .i64 2)).setCell ⟨rb, 1, none⟩ (.string ⟨q.s.toArray⟩)).setCell ⟨rb, 2, none⟩ (.slice none 0 0)).setCell ⟨rb, 3, none⟩ (.slice none 0 0)).setCell ⟨rb, 4, none⟩ (.bool false)).cell? ⟨rb, 3, none⟩ = some (.slice none 0 0) := HM6.out.cell 0 rfl 3 rfl
   have z4 : (((((w3.setCell ⟨rb, 0, none⟩ (.int .i64 2)).setCell ⟨rb, 1, none⟩ (.string ⟨q.s.toArray⟩)).setCell ⟨rb, 2, none⟩ (.slice none 0 0)).setCell ⟨rb, 3, none⟩ (.slice none 0 0)).setCell ⟨rb, 4, none⟩ (.bool false)).cell? ⟨rb, 4, none⟩ = some (.bool false) := HM6.out.cell 0 rfl 4 rfl
   refine bodyPost_ret (v := .agg #[.int .i64 2, .string ⟨q.s.toArray⟩, .slice none 0 0, .slice none 0 0, .bool false]) (by simp [results, Tryz.results62, go_sem, z0, z1, z2, z3, z4]) rfl ?_
   have HR := HM6.out.drop1
   exact ⟨_, none, 0, none, 0, rfl, HJ.out, Mem.tyMake (kids := []) (labels := []) 2 q.s false (((HR.del 1).addNil 9 1).addNil 28 5) rfl rfl rfl⟩
  ·have e1 : ((q.kind : Int) == 1) = false := beq_eq_false_iff_ne.2 (by omega)
   have HW : Hid (wd l i 1 = none) := by show _ = _; unfold wd; rw [HQ.out]; exact if_neg hk1
   have hp' := HP.out
   rw [HW5.out, HW.out] at hp'
   simp only at hp'
   clear hk5 hk1
   go_wp2_with fail
   by_cases ht : tk l i 6 [40] = true
   ·rw [if_pos ht] at hp'
    obtain ⟨⟨t1, i1⟩, h1, h2⟩ := Option.bind_eq_some_iff.1 hp'
    simp only at h2
    have hcl : tk l i1 6 [41] = true := by
     cases hb : tk l i1 6 [41]
     ·rw [hb] at h2; simp at h2
     ·rfl
    rw [hcl, if_pos rfl] at h2
    simp only [zqe, Prod.mk.injEq] at h2
    obtain ⟨rfl, rfl⟩ := h2
    have HT := Tre.hid ht
    have HC := Tre.hid hcl
    have HP1 := Tre.hid h1
    have HI2 := Tre.hid (tk_lt HE.out (by omega) ht)
    clear ht hcl h1 hp' HP
    refine (takes w0 _ b _ c l i 6 ⟨#[40]⟩ _ (H2.out.front 2 rfl) HL.out hi hll true HT.out).mono ?_
    rintro e w3 ⟨rfl, M3⟩
    rw [if_pos rfl] at M3
    have HM3 := Tre.hid M3
    clear M3
    go_wp2_with fail
    refine (IH.out _ 0 (i + 1) i1 t1 _ HI2.out (by omega) HP1.out HM3.out).mono ?_
    rintro e w4 ⟨O, aa, ca, al, cl, rfl, hj1, M4⟩
    have M5 := M4.allocR #[.int .i64 (t1.kind : Int), .string ⟨t1.s.toArray⟩, .slice aa t1.args.length ca, .slice al t1.labels.length cl, .bool t1.opn] 28
    have HM5 := Tre.hid M5
    have HJ1 := Tre.hid hj1
    generalize hnb : w4.heap.size = nb at HM5
    clear M4 M5 hj1
    go_wp2_with fail
    refine (need w0 _ b _ c l i1 ⟨#[41]⟩ _ (HM5.out.front 2 rfl) HL.out HJ1.out hll HC.out).mono ?_
    rintro e w6 ⟨rfl, M6⟩
    have HJ := Tre.hid (tk_lt HE.out (by omega) HC.out)
    have HM7 := Tre.hid M6
    clear M6
    have v0 : w6.cell? ⟨nb, 0, none⟩ = some (.int .i64 (t1.kind : Int)) := HM7.out.cell 1 rfl 0 rfl
    have v1 : w6.cell? ⟨nb, 1, none⟩ = some (.string ⟨t1.s.toArray⟩) := HM7.out.cell 1 rfl 1 rfl
    have v2 : w6.cell? ⟨nb, 2, none⟩ = some (.slice aa t1.args.length ca) := HM7.out.cell 1 rfl 2 rfl
    have v3 : w6.cell? ⟨nb, 3, none⟩ = some (.slice al t1.labels.length cl) := HM7.out.cell 1 rfl 3 rfl
    have v4 : w6.cell? ⟨nb, 4, none⟩ = some (.bool t1.opn) := HM7.out.cell 1 rfl 4 rfl
    have MT : Mem w0 w6 (cellsR rb 28 #[.int .i64 0, .string ⟨#[]⟩, .slice none 0 0, .slice none 0 0, .bool false] :: _) := HM7.out.front 4 rfl
    have g0 : w6.cell? ⟨rb, 0, none⟩ = some (.int .i64 0) := MT.cell 0 rfl 0 rfl
    have g1 : w6.cell? ⟨rb, 1, none⟩ = some (.string ⟨#[]⟩) := MT.cell 0 rfl 1 rfl
    have g2 : w6.cell? ⟨rb, 2, none⟩ = some (.slice none 0 0) := MT.cell 0 rfl 2 rfl
    have g3 : w6.cell? ⟨rb, 3, none⟩ = some (.slice none 0 0) := MT.cell 0 rfl 3 rfl
    have g4 : w6.cell? ⟨rb, 4, none⟩ = some (.bool false) := MT.cell 0 rfl 4 rfl
    have f0 := MT.free 0 rfl 0
    have f1 := MT.free 0 rfl 1
    have f2 := MT.free 0 rfl 2
    have f3 := MT.free 0 rfl 3
    have f4 := MT.free 0 rfl 4
    have M6 : Mem w0 (((((w6.setCell ⟨rb, 0, none⟩ (.int .i64 (t1.kind : Int))).setCell ⟨rb, 1, none⟩ (.string ⟨t1.s.toArray⟩)).setCell ⟨rb, 2, none⟩ (.slice aa t1.args.length ca)).setCell ⟨rb, 3, none⟩ (.slice al t1.labels.length cl)).setCell ⟨rb, 4, none⟩ (.bool t1.opn)) (cellsR rb 28 #[.int .i64 (t1.kind : Int), .string ⟨t1.s.toArray⟩, .slice aa t1.args.length ca, .slice al t1.labels.length cl, .bool t1.opn] :: _) := (((((MT.setCell 0 rfl 0 (.int .i64 (t1.kind : Int))).setCell 0 rfl 1 (.string ⟨t1.s.toArray⟩)).setCell 0 rfl 2 (.slice aa t1.args.length ca)).setCell 0 rfl 3 (.slice al t1.labels.length cl)).setCell 0 rfl 4 (.bool t1.opn))
    have HM6 := Tre.hid M6
    clear M6 MT
    go_wp2_with fail
    have z0 : (((((w6.setCell ⟨rb, 0, none⟩ (.int .i64 (t1.kind : Int))).setCell ⟨rb, 1, none⟩ (.string ⟨t1.s.toArray⟩)).setCell ⟨rb, 2, none⟩ (.slice aa t1.args.length ca)).setCell ⟨rb, 3, none⟩ (.slice al t1.labels.length cl)).setCell ⟨rb, 4, none⟩ (.bool t1.opn)).cell? ⟨rb, 0, none⟩ = some (.int .i64 (t1.kind : Int)) := HM6.out.cell 0 rfl 0 rfl
    have z1 : (((((w6.setCell ⟨rb, 0, none⟩ (.int .i64 (t1.kind : Int))).setCell ⟨rb, 1, none⟩ (.string ⟨t1.s.toArray⟩)).setCell ⟨rb, 2, none⟩ (.slice aa t1.args.length ca)).setCell ⟨rb, 3, none⟩ (.slice al t1.labels.length cl)).setCell ⟨rb, 4, none⟩ (.bool t1.opn)).cell? ⟨rb, 1, none⟩ = some (.string ⟨t1.s.toArray⟩) := HM6.out.cell 0 rfl 1 rfl
    have z2 : (((((w6.setCell ⟨rb, 0, none⟩ (.int .i64 (t1.kind : Int))).setCell ⟨rb, 1, none⟩ (.string ⟨t1.s.toArray⟩)).setCell ⟨rb, 2, none⟩ (.slice aa t1.args.length ca)).setCell ⟨rb, 3, none⟩ (.slice al t1.labels.length cl)).setCell ⟨rb, 4, none⟩ (.bool t1.opn)).cell? ⟨rb, 2, none⟩ = some (.slice aa t1.args.length ca) := HM6.out.cell 0 rfl 2 rfl
    have z3 : (((((w6.setCell ⟨rb, 0, none⟩ (.int .i64 (t1.kind : Int))).setCell ⟨rb, 1, none⟩ (.string ⟨t1.s.toArray⟩)).setCell ⟨rb, 2, none⟩ (.slice aa t1.args.length ca)).setCell ⟨rb, 3, none⟩ (.slice al t1.labels.length cl)).setCell ⟨rb, 4, none⟩ (.bool t1.opn)).cell? ⟨rb, 3, none⟩ = some (.slice al t1.labels.length cl) := HM6.out.cell 0 rfl 3 rfl
    have z4 : (((((w6.setCell ⟨rb, 0, none⟩ (.int .i64 (t1.kind : Int))).setCell ⟨rb, 1, none⟩ (.string ⟨t1.s.toArray⟩)).setCell ⟨rb, 2, none⟩ (.slice aa t1.args.length ca)).setCell ⟨rb, 3, none⟩ (.slice al t1.labels.length cl)).setCell ⟨rb, 4, none⟩ (.bool t1.opn)).cell? ⟨rb, 4, none⟩ = some (.bool t1.opn) := HM6.out.cell 0 rfl 4 rfl
    refine bodyPost_ret (v := .agg #[.int .i64 (t1.kind : Int), .string ⟨t1.s.toArray⟩, .slice aa t1.args.length ca, .slice al t1.labels.length cl, .bool t1.opn]) (by simp [results, Tryz.results62, go_sem, z0, z1, z2, z3, z4]) rfl ?_
    have HR := HM6.out.drop1
    exact ⟨O, aa, ca, al, cl, rfl, HJ.out, ((HR.del 3).del 1).front 1 rfl⟩
   ·rw [if_neg ht] at hp'
    have hlt : tk l i 6 [60] = true := by
     cases hb : tk l i 6 [60]
     ·rw [hb] at hp'; simp at hp'
     ·rfl
    rw [hlt, if_pos rfl] at hp'
    have HP1 := Tre.hid hp'
    have HT : Hid (tk l i 6 [40] = false) := by show _ = _; simpa using ht
    have HC := Tre.hid hlt
    have HI2 := Tre.hid (tk_lt HE.out (by omega) hlt)
    clear ht hlt hp' HP
    refine (takes w0 _ b _ c l i 6 ⟨#[40]⟩ _ (H2.out.front 2 rfl) HL.out hi hll false HT.out).mono ?_
    rintro e w3 ⟨rfl, M3⟩
    rw [if_neg (by simp)] at M3
    have HM3 := Tre.hid M3
    clear M3
    go_wp2_with fail
    refine (need w0 _ b _ c l i ⟨#[60]⟩ _ HM3.out HL.out hi hll HC.out).mono ?_
    rintro e w4 ⟨rfl, M4⟩
    have HM4 := Tre.hid M4
    clear M4
    go_wp2_with fail
    refine (HO.out _ (i + 1) j t _ HI2.out HP1.out HM4.out).mono ?_
    rintro e w5 ⟨O, aa, ca, al, cl, rfl, hj1, M5⟩
    have HJ := Tre.hid hj1
    have HM5 := Tre.hid M5
    clear M5 hj1
    have MT : Mem w0 w5 (cellsR rb 28 #[.int .i64 0, .string ⟨#[]⟩, .slice none 0 0, .slice none 0 0, .bool false] :: _) := HM5.out.front 3 rfl
    have g0 : w5.cell? ⟨rb, 0, none⟩ = some (.int .i64 0) := MT.cell 0 rfl 0 rfl
    have g1 : w5.cell? ⟨rb, 1, none⟩ = some (.string ⟨#[]⟩) := MT.cell 0 rfl 1 rfl
    have g2 : w5.cell? ⟨rb, 2, none⟩ = some (.slice none 0 0) := MT.cell 0 rfl 2 rfl
    have g3 : w5.cell? ⟨rb, 3, none⟩ = some (.slice none 0 0) := MT.cell 0 rfl 3 rfl
    have g4 : w5.cell? ⟨rb, 4, none⟩ = some (.bool false) := MT.cell 0 rfl 4 rfl
    have f0 := MT.free 0 rfl 0
    have f1 := MT.free 0 rfl 1
    have f2 := MT.free 0 rfl 2
    have f3 := MT.free 0 rfl 3
    have f4 := MT.free 0 rfl 4
    have M6 : Mem w0 (((((w5.setCell ⟨rb, 0, none⟩ (.int .i64 (t.kind : Int))).setCell ⟨rb, 1, none⟩ (.string ⟨t.s.toArray⟩)).setCell ⟨rb, 2, none⟩ (.slice aa t.args.length ca)).setCell ⟨rb, 3, none⟩ (.slice al t.labels.length cl)).setCell ⟨rb, 4, none⟩ (.bool t.opn)) (cellsR rb 28 #[.int .i64 (t.kind : Int), .string ⟨t.s.toArray⟩, .slice aa t.args.length ca, .slice al t.labels.length cl, .bool t.opn] :: _) := (((((MT.setCell 0 rfl 0 (.int .i64 (t.kind : Int))).setCell 0 rfl 1 (.string ⟨t.s.toArray⟩)).setCell 0 rfl 2 (.slice aa t.args.length ca)).setCell 0 rfl 3 (.slice al t.labels.length cl)).setCell 0 rfl 4 (.bool t.opn))
    have HM6 := Tre.hid M6
    clear M6 MT
    go_wp2_with fail
    have z0 : (((((w5.setCell ⟨rb, 0, none⟩ (.int .i64 (t.kind : Int))).setCell ⟨rb, 1, none⟩ (.string ⟨t.s.toArray⟩)).setCell ⟨rb, 2, none⟩ (.slice aa t.args.length ca)).setCell ⟨rb, 3, none⟩ (.slice al t.labels.length cl)).setCell ⟨rb, 4, none⟩ (.bool t.opn)).cell? ⟨rb, 0, none⟩ = some (.int .i64 (t.kind : Int)) := HM6.out.cell 0 rfl 0 rfl
    have z1 : (((((w5.setCell ⟨rb, 0, none⟩ (.int .i64 (t.kind : Int))).setCell ⟨rb, 1, none⟩ (.string ⟨t.s.toArray⟩)).setCell ⟨rb, 2, none⟩ (.slice aa t.args.length ca)).setCell ⟨rb, 3, none⟩ (.slice al t.labels.length cl)).setCell ⟨rb, 4, none⟩ (.bool t.opn)).cell? ⟨rb, 1, none⟩ = some (.string ⟨t.s.toArray⟩) := HM6.out.cell 0 rfl 1 rfl
    have z2 : (((((w5.setCell ⟨rb, 0, none⟩ (.int .i64 (t.kind : Int))).setCell ⟨rb, 1, none⟩ (.string ⟨t.s.toArray⟩)).setCell ⟨rb, 2, none⟩ (.slice aa t.args.length ca)).setCell ⟨rb, 3, none⟩ (.slice al t.labels.length cl)).setCell ⟨rb, 4, none⟩ (.bool t.opn)).cell? ⟨rb, 2, none⟩ = some (.slice aa t.args.length ca) := HM6.out.cell 0 rfl 2 rfl
    have z3 : (((((w5.setCell ⟨rb, 0, none⟩ (.int .i64 (t.kind : Int))).setCell ⟨rb, 1, none⟩ (.string ⟨t.s.toArray⟩)).setCell ⟨rb, 2, none⟩ (.slice aa t.args.length ca)).setCell ⟨rb, 3, none⟩ (.slice al t.labels.length cl)).setCell ⟨rb, 4, none⟩ (.bool t.opn)).cell? ⟨rb, 3, none⟩ = some (.slice al t.labels.length cl) := HM6.out.cell 0 rfl 3 rfl
    have z4 : (((((w5.setCell ⟨rb, 0, none⟩ (.int .i64 (t.kind : Int))).setCell ⟨rb, 1, none⟩ (.string ⟨t.s.toArray⟩)).setCell ⟨rb, 2, none⟩ (.slice aa t.args.length ca)).setCell ⟨rb, 3, none⟩ (.slice al t.labels.length cl)).setCell ⟨rb, 4, none⟩ (.bool t.opn)).cell? ⟨rb, 4, none⟩ = some (.bool t.opn) := HM6.out.cell 0 rfl 4 rfl
    refine bodyPost_ret (v := .agg #[.int .i64 (t.kind : Int), .string ⟨t.s.toArray⟩, .slice aa t.args.length ca, .slice al t.labels.length cl, .bool t.opn]) (by simp [results, Tryz.results62, go_sem, z0, z1, z2, z3, z4]) rfl ?_
    have HR := HM6.out.drop1
    exact ⟨O, aa, ca, al, cl, rfl, HJ.out, HR.del 2⟩
end Go.Proofs.YtbafalfmgibnfaaGreatDoor.typ
namespace Go.Tre
theorem parse_le (l : List Tok) : ∀ k, (∀ n i t j, pLev l k n i = some (t, j) → i ≤ j) ∧ (∀ t0 i t j, pAs l k t0 i = some (t, j) → i ≤ j) ∧ (∀ ls ts i t j, pObj l k ls ts i = some (t, j) → i ≤ j) := by
 intro k
 induction k with
 | zero =>
  refine ⟨fun n i t j h => ?_, fun t0 i t j h => ?_, fun ls ts i t j h => ?_⟩
  ·rw [pLev] at h; cases h
  ·rw [pAs] at h; cases h
  ·rw [pObj] at h; cases h
 | succ k ih =>
  obtain ⟨h1, h2, h3⟩ := ih
  refine ⟨fun n i t j h => ?_, fun t0 i t j h => ?_, fun ls ts i t j h => ?_⟩
  ·rw [pLev] at h
   split at h
   ·obtain ⟨r, e1, e2⟩ := Option.bind_eq_some_iff.1 h
    have := h1 _ _ _ _ e1
    have := h2 _ _ _ _ e2
    omega
   ·split at h
    ·obtain ⟨r, e1, e2⟩ := Option.bind_eq_some_iff.1 h
     have a1 := h1 _ _ _ _ e1
     split at e2
     ·obtain ⟨q, e3, e4⟩ := Option.map_eq_some_iff.1 e2
      have a2 := h1 _ _ _ _ e3
      cases e4; omega
     ·cases e2; omega
    ·split at h
     ·cases h; omega
     ·split at h
      ·split at h
       ·cases h; omega
       ·cases h
      ·split at h
       ·obtain ⟨r, e1, e2⟩ := Option.bind_eq_some_iff.1 h
        have a1 := h1 _ _ _ _ e1
        split at e2
        ·cases e2; omega
        ·cases e2
       ·split at h
        ·split at h
         ·cases h; omega
         ·have := h3 _ _ _ _ _ h
          omega
        ·cases h
  ·rw [pAs] at h
   split at h
   ·obtain ⟨r, e1, e2⟩ := Option.bind_eq_some_iff.1 h
    have := h2 _ _ _ _ e2
    omega
   ·cases h; omega
  ·rw [pObj] at h
   split at h
   ·split at h
    ·cases h; omega
    ·cases h
   ·obtain ⟨s, e1, e2⟩ := Option.bind_eq_some_iff.1 h
    split at e2
    ·obtain ⟨r, e3, e4⟩ := Option.bind_eq_some_iff.1 e2
     have a1 := h1 _ _ _ _ e3
     split at e4
     ·cases e4
     ·split at e4
      ·cases e4; omega
      ·split at e4
       ·have := h3 _ _ _ _ _ e4
        omega
       ·cases e4
    ·cases e2
theorem pLev_le {l : List Tok} {k n i j : Nat} {t : Ty} (h : pLev l k n i = some (t, j)) : i ≤ j := (parse_le l k).1 n i t j h
end Go.Tre
namespace Go.Tre
structure Sp where
 gap : Bool
 kind : Nat
 s : List UInt8
def Sp.body (x : Sp) : List UInt8 := if x.kind = 5 then 39 :: x.s else x.s
def Sp.text (x : Sp) : List UInt8 := if x.gap then 32 :: x.body else x.body
def spell : List Sp → List UInt8
 | [] => []
 | x :: l => x.text ++ spell l
theorem spell_app : ∀ a b : List Sp, spell (a ++ b) = spell a ++ spell b
 | [], b => rfl
 | x :: a, b => by rw [List.cons_append, spell, spell, spell_app a b, List.append_assoc]
structure Good (x : Sp) (r : List UInt8) : Prop where
 next : nextS (x.body ++ r) = some (⟨x.kind, 0, 0, x.s⟩, x.body.length)
 head : ∃ c t, x.body ++ r = c :: t ∧ blank c = false ∧ (c = 40 → t.head? ≠ some 42)
def Goods : List Sp → Prop
 | [] => True
 | x :: l => Good x (spell l) ∧ Goods l
def toksOf (N : Nat) : List Sp → List Tok
 | [] => [⟨0, N, 0, []⟩]
 | x :: l => ⟨x.kind, N - (x.body ++ spell l).length, 0, x.s⟩ :: toksOf N l
theorem skipS_good {x : Sp} {r : List UInt8} (h : Good x r) : skipS (x.text ++ r) = some (x.body ++ r) := by
 obtain ⟨c, t, e, hb, hn⟩ := h.head
 have h1 : (x.text ++ r).dropWhile blank = x.body ++ r := by
  unfold Sp.text
  split
  ·rw [List.cons_append, List.dropWhile_cons, if_pos (by decide), e, List.dropWhile_cons, if_neg (by rw [hb]; decide)]
  ·rw [e, List.dropWhile_cons, if_neg (by rw [hb]; decide)]
 rw [skipS_rest' (fun q hq => ?_), h1]
 rw [h1, e] at hq
 cases hq
 exact hn rfl rfl
theorem allS_spell (N : Nat) : ∀ l : List Sp, Goods l → allS N (spell l) = some (toksOf N l)
 | [], _ => by rw [allS_eq, show spell [] = [] from rfl, skipS_rest' (l := []) (fun r h => by simp at h)]; rfl
 | x :: l, h => by
  obtain ⟨c, t, e, _, _⟩ := h.1.head
  have hn := h.1.next
  have ih := allS_spell N l h.2
  rw [spell, allS_eq, skipS_good h.1, toksOf]
  have hd : (x.body ++ spell l).drop x.body.length = spell l := List.drop_left
  rw [e] at hn hd ⊢
  simp only
  rw [hn]
  simp only
  rw [hd, ih]
  rfl
theorem lexS_spell {l : List Sp} (h : Goods l) (hl : (spell l).length ≤ 65536) : lexS (spell l) = some (toksOf (spell l).length l) := by
 unfold lexS
 rw [if_pos hl, allS_spell _ l h]
theorem toksOf_len (N : Nat) : ∀ l : List Sp, (toksOf N l).length = l.length + 1
 | [] => rfl
 | x :: l => by rw [toksOf, List.length_cons, toksOf_len N l, List.length_cons]
theorem toksOf_at (N : Nat) : ∀ (l : List Sp) (j : Nat) (x : Sp), l[j]? = some x → ∃ t, (toksOf N l)[j]? = some t ∧ t.kind = x.kind ∧ t.s = x.s
 | [], j, x, h => by simp at h
 | y :: l, 0, x, h => by
  simp at h
  subst h
  exact ⟨_, rfl, rfl, rfl⟩
 | y :: l, j + 1, x, h => by
  simp only [zqb] at h
  obtain ⟨t, h1, h2⟩ := toksOf_at N l j x h
  exact ⟨t, by rw [toksOf, zqb]; exact h1, h2⟩
theorem toksOf_end (N : Nat) : ∀ l : List Sp, (toksOf N l)[l.length]? = some ⟨0, N, 0, []⟩
 | [] => rfl
 | y :: l => by rw [toksOf, List.length_cons, zqb, toksOf_end N l]
/-! which tokens are told -/
theorem wordFrom_app {r : List UInt8} (hr : wordFrom false r = 0) : ∀ (s : List UInt8) (b : Bool), s ≠ [] → wordFrom b s = s.length → wordFrom b (s ++ r) = s.length
 | [], b, h, _ => absurd rfl h
 | c :: s, b, _, h => by
  unfold wordFrom at h
  rw [List.cons_append]
  unfold wordFrom
  split at h
  ·rename_i hc
   rw [if_pos hc]
   rw [List.length_cons] at h ⊢
   by_cases hs : s = []
   ·subst hs
    rw [List.nil_append, hr]; rfl
   ·rw [wordFrom_app hr s false hs (by omega)]; omega
  ·rw [List.length_cons] at h; omega
structure WordS (s : List UInt8) : Prop where
 word : wordFrom true s = s.length
 ne : s ≠ []
 few : s.length ≤ 100
theorem word_head {s : List UInt8} (h : WordS s) : ∃ c t, s = c :: t ∧ goesB c.toNat true = true := by
 cases s with
 | nil => exact absurd rfl h.ne
 | cons c t =>
  refine ⟨c, t, rfl, ?_⟩
  have := h.word
  unfold wordFrom at this
  split at this
  ·assumption
  ·rw [List.length_cons] at this; omega
theorem goes_not (c : UInt8) (h : goesB c.toNat true = true) : blank c = false ∧ c ≠ 40 ∧ c ≠ 42 ∧ c ≠ 39 := by
 have h1 : 95 ≤ c.toNat := by
  unfold goesB at h
  split at h
  ·cases h
  ·simp only [decide_eq_true_eq] at h
   omega
 have ne : ∀ d : UInt8, d.toNat < 95 → c ≠ d := fun d hd e => by subst e; omega
 refine ⟨?_, ne _ (by decide), ne _ (by decide), ne _ (by decide)⟩
 unfold blank
 simp [ne 9 (by decide), ne 10 (by decide), ne 13 (by decide), ne 32 (by decide)]
theorem good_word {g : Bool} {k : Nat} {s r : List UInt8} (h : WordS s) (hk : k = if keyWords.contains s then 2 else 1) (hr : wordFrom false r = 0) : Good ⟨g, k, s⟩ r := by
 have hb : (⟨g, k, s⟩ : Sp).body = s := by
  unfold Sp.body
  rw [if_neg]
  subst hk
  show ¬ (if keyWords.contains s = true then 2 else 1) = 5
  split <;> decide
 have hw := wordFrom_app hr s true h.ne h.word
 obtain ⟨c, t, rfl, hc⟩ := word_head h
 obtain ⟨n1, n2, _, _⟩ := goes_not c hc
 refine ⟨?_, c, t ++ r, by rw [hb]; rfl, n1, fun e => absurd e n2⟩
 rw [hb]
 unfold nextS
 rw [hw, if_pos (by simp), if_neg (by have := h.few; omega), List.take_left' rfl, hk]
theorem good_tick {g : Bool} {s r : List UInt8} (h : WordS s) (hr : wordFrom false r = 0) : Good ⟨g, 5, s⟩ r := by
 have hb : (⟨g, 5, s⟩ : Sp).body = 39 :: s := rfl
 have hw := wordFrom_app hr s true h.ne h.word
 have hpos : 0 < s.length := List.length_pos_iff.2 h.ne
 refine ⟨?_, 39, s ++ r, by rw [hb]; rfl, by decide, fun e => absurd e (by decide)⟩
 rw [hb, List.cons_append]
 unfold nextS
 have h0 : wordFrom true (39 :: (s ++ r)) = 0 := by unfold wordFrom; rw [if_neg (by decide)]
 rw [h0, if_neg (by decide)]
 simp only [reduceIte]
 rw [hw, if_neg (by have := h.few; omega), List.take_left' rfl]
 rfl
theorem good_sym {g : Bool} {c : UInt8} {t r : List UInt8} (hc : wordFrom true (c :: (t ++ r)) = 0) (h1 : blank c = false) (h2 : c ≠ 39) (h3 : isDig c = false) (h4 : c ≠ 34) (h5 : c = 40 → (t ++ r).head? ≠ some 42)
  (hf : symbolsS.find? (fun x => x.isPrefixOf (c :: (t ++ r))) = some (c :: t)) : Good ⟨g, 6, c :: t⟩ r := by
 refine ⟨?_, c, t ++ r, rfl, h1, h5⟩
 show nextS (c :: (t ++ r)) = _
 unfold nextS
 rw [hc, if_neg (by decide)]
 simp only
 rw [if_neg h2, if_neg (by rw [h3]; decide), if_neg h4, hf]
 rfl
theorem word0 {c : UInt8} (h : goesB c.toNat true = false) (r : List UInt8) : wordFrom true (c :: r) = 0 := by unfold wordFrom; rw [if_neg (by rw [h]; decide)]
theorem good_open {g : Bool} {r : List UInt8} (h : r.head? ≠ some 42) : Good ⟨g, 6, [40]⟩ r :=
 good_sym (word0 (by decide) _) (by decide) (by decide) (by decide) (by decide) (fun _ => h) (by simp [symbolsS, List.find?, List.isPrefixOf])
theorem good_close {g : Bool} {r : List UInt8} : Good ⟨g, 6, [41]⟩ r :=
 good_sym (word0 (by decide) _) (by decide) (by decide) (by decide) (by decide) (fun h => absurd h (by decide)) (by simp [symbolsS, List.find?, List.isPrefixOf])
theorem good_arrow {g : Bool} {r : List UInt8} : Good ⟨g, 6, [45, 62]⟩ r :=
 good_sym (word0 (by decide) _) (by decide) (by decide) (by decide) (by decide) (fun h => absurd h (by decide)) (by simp [symbolsS, List.isPrefixOf])
theorem good_star {g : Bool} {r : List UInt8} : Good ⟨g, 6, [42]⟩ r :=
 good_sym (word0 (by decide) _) (by decide) (by decide) (by decide) (by decide) (fun h => absurd h (by decide)) (by simp [symbolsS, List.find?, List.isPrefixOf])
theorem good_semi {g : Bool} {r : List UInt8} : Good ⟨g, 6, [59]⟩ r :=
 good_sym (word0 (by decide) _) (by decide) (by decide) (by decide) (by decide) (fun h => absurd h (by decide)) (by simp [symbolsS, List.find?, List.isPrefixOf])
theorem good_dots {g : Bool} {r : List UInt8} : Good ⟨g, 6, [46, 46]⟩ r :=
 good_sym (word0 (by decide) _) (by decide) (by decide) (by decide) (by decide) (fun h => absurd h (by decide)) (by simp [symbolsS, List.find?, List.isPrefixOf])
theorem good_less {g : Bool} {r : List UInt8} : Good ⟨g, 6, [60]⟩ (32 :: r) :=
 good_sym (word0 (by decide) _) (by decide) (by decide) (by decide) (by decide) (fun h => absurd h (by decide)) (by simp [symbolsS, List.find?, List.isPrefixOf])
theorem good_colon {g : Bool} {r : List UInt8} : Good ⟨g, 6, [58]⟩ (32 :: r) :=
 good_sym (word0 (by decide) _) (by decide) (by decide) (by decide) (by decide) (fun h => absurd h (by decide)) (by simp [symbolsS, List.find?, List.isPrefixOf])
def Sep (r : List UInt8) : Prop := r = [] ∨ ∃ c t, r = c :: t ∧ (c = 32 ∨ c = 41)
theorem Sep.word {r : List UInt8} (h : Sep r) : wordFrom false r = 0 := by
 rcases h with rfl | ⟨c, t, rfl, rfl | rfl⟩
 ·rfl
 ·unfold wordFrom; rw [if_neg (by decide)]
 ·unfold wordFrom; rw [if_neg (by decide)]
theorem good_more {g : Bool} {r : List UInt8} (h : Sep r) : Good ⟨g, 6, [62]⟩ r :=
 good_sym (word0 (by decide) _) (by decide) (by decide) (by decide) (by decide) (fun h => absurd h (by decide)) (by
  rcases h with rfl | ⟨c, t, rfl, rfl | rfl⟩ <;> simp [symbolsS, List.find?, List.isPrefixOf])
theorem sep_gap (k : Nat) (s : List UInt8) (l : List Sp) : Sep (spell (⟨true, k, s⟩ :: l)) := .inr ⟨32, _, rfl, .inl rfl⟩
theorem sep_close (l : List Sp) : Sep (spell (⟨false, 6, [41]⟩ :: l)) := .inr ⟨41, _, rfl, .inr rfl⟩
end Go.Tre
