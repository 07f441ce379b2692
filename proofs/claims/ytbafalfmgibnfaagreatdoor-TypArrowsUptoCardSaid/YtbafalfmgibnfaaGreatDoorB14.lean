/- typ: the parser's atom, where it comes to a type. Layer 3, plain: the parser goes on. slices.Insert at the end of a row: strings, types. Types in the memory: parts on their way, apart from each other. -/
import Derived.Test.YtbafalfmgibnfaaGreatDoorB12
import Derived.Test.YtbafalfmgibnfaaGreatDoorB13
import Derived.Test.YtbafalfmgibnfaaGreatDoorB00
import Derived.Test.YtbafalfmgibnfaaGreatDoorB01
import Derived.Test.YtbafalfmgibnfaaGreatDoorB03
set_option linter.unusedVariables false
namespace Go.Tre
def basicsB : List ByteArray := [⟨#[105, 110, 116]⟩, ⟨#[98, 111, 111, 108]⟩, ⟨#[115, 116, 114, 105, 110, 103]⟩, ⟨#[117, 110, 105, 116]⟩]
theorem basics_any {s : List UInt8} (h : basics.contains s = true) : (basicsB.any fun x => decide ((⟨s.toArray⟩ : ByteArray) = x)) = true := by
 rw [List.contains_iff_mem] at h
 unfold basics at h
 simp only [List.mem_cons, List.not_mem_nil, or_false] at h
 rcases h with rfl | rfl | rfl | rfl <;> decide
theorem pLevA (l : List Tok) (k i : Nat) : pLev l (k + 1) 3 i = match wd l i 5 with
   | some s => some (.mk 1 s [] [] false, i + 1)
   | none => match wd l i 1 with
    | some s => if basics.contains s then some (.mk 2 s [] [] false, i + 1) else none
    | none =>
     if tk l i 6 [40] then (pLev l k 0 (i + 1)).bind fun r => if tk l r.2 6 [41] then some (r.1, r.2 + 1) else none
     else if tk l i 6 [60] then (if tk l (i + 1) 6 [62] then some (.mk 3 [] [] [] false, i + 2) else pObj l k [] [] (i + 1))
     else none := by
 rw [pLev, if_neg (by omega), if_neg (by omega)]
 rfl
end Go.Tre
namespace Go.Proofs.YtbafalfmgibnfaaGreatDoor.typ
open Go.RowKit Go.Tre
def ObjAt (w0 : World) (b : Nat) (ad : Option Addr) (c : Nat) (l : List Tok) (k : Nat) : Prop :=
 ∀ (rs : List Res) (i j : Nat) (t : Ty) (w : World), i < l.length → (if tk l i 6 [62] then some (.mk 3 [] [] [] false, i + 1) else pObj l k [] [] i) = some (t, j) → Mem w0 w (parR b ad l.length c i :: rs) →
  Calls Tryz.prog 81 #[.pointer (some ⟨b, 0, none⟩)] w (LevPost w0 b ad c l rs t j)
set_option maxRecDepth 100000 in
set_option maxHeartbeats 8000000 in
theorem atom_any (w0 : World) (b : Nat) (ad : Option Addr) (c : Nat) (l : List Tok) (hl : ToksAt w0 ad l) (he : TokEnds l) (hll : l.length ≤ 4194304) (k : Nat) (ih : LevAt w0 b ad c l k) (ho : ObjAt w0 b ad c l k) (rs : List Res) (i j : Nat) (t : Ty) (w : World) (hi : i < l.length) (hp : pLev l (k + 1) 3 i = some (t, j)) (hM : Mem w0 w (parR b ad l.length c i :: rs)) :
  Calls Tryz.prog 62 #[.pointer (some ⟨b, 0, none⟩)] w (LevPost w0 b ad c l rs t j) := by
 rw [pLevA] at hp
 obtain ⟨q, hq⟩ : ∃ q, l[i]? = some q := ⟨_, List.getElem?_eq_getElem hi⟩
 have M0 := hM.allocR #[.int .i64 0, .string ⟨#[]⟩, .slice none 0 0, .slice none 0 0, .bool false] 28
 obtain ⟨bt, ot, rfl, a0, a1, a2, a3⟩ := (hl.below M0.below).tok hq
 obtain ⟨p0, p1⟩ := M0.two 1 rfl
 have HM := Tre.hid M0
 have HL := Tre.hid hl
 have HE := Tre.hid he
 have IH := Tre.hid ih
 have HO := Tre.hid ho
 have HQ := Tre.hid hq
 have HP := Tre.hid hp
 clear hM hl he ih ho hq hp M0
 go_enter Tryz.func62, Tryz.ntmps62
 go_wp2_with fail
 have cS : Cond (fun w' => w'.cell? ⟨b, 0, none⟩ = some (.slice (some ⟨bt, ot, none⟩) l.length c) ∧ w'.cell? ⟨b, 1, none⟩ = some (.int .i64 i) ∧ w'.cell? ⟨bt, ot + i * 4, none⟩ = some (.int .i64 q.kind) ∧ w'.cell? ⟨bt, ot + i * 4 + 1, none⟩ = some (.int .i64 q.at_) ∧ w'.cell? ⟨bt, ot + i * 4 + 2, none⟩ = some (.int .i64 q.n) ∧ w'.cell? ⟨bt, ot + i * 4 + 3, none⟩ = some (.string ⟨q.s.toArray⟩)) := ⟨⟩
 refine cS.keep [11] ?_ (fun hH0 => ?_)
 ·exact ⟨p0, p1, a0, a1, a2, a3⟩
 have H0 := Tre.hid HM.out.drew
 generalize hrb : w.heap.size = rb at H0 hH0 ⊢
 generalize hq0 : (w.alloc (.cells #[.int .i64 0, .string ⟨#[]⟩, .slice none 0 0, .slice none 0 0, .bool false] 28)).drew = wq0 at H0 hH0 ⊢
 clear hq0 hrb p0 p1 a0 a1 a2 a3 HM
 refine lPq 0 (some 5) (v := ?_) rfl ?_ (keep_of hH0) ?_
 rotate_left
 ·intro w; go_simp <;> with_reducible rfl
 try simp only [Act.put, zqf, zqg, zqh]
 refine lPq 1 (some 6) (v := ?_) rfl ?_ (keep_of hH0) ?_
 rotate_left
 ·intro w; go_simp <;> with_reducible rfl
 try simp only [Act.put, zqf, zqg, zqh]
 refine lPq 2 (some 7) (v := ?_) rfl ?_ (keep_of hH0) ?_
 rotate_left
 ·intro w; go_simp <;> with_reducible rfl
 try simp only [Act.put, zqf, zqg, zqh]
 refine lPq 4 (some 9) (v := ?_) rfl ?_ (keep_of hH0) ?_
 rotate_left
 ·intro w; go_simp <;> with_reducible rfl
 try simp only [Act.put, zqf, zqg, zqh]
 refine lPq 5 (some 10) (v := ?_) rfl ?_ (keep_of hH0) ?_
 rotate_left
 ·intro w; go_simp <;> with_reducible rfl
 try simp only [Act.put, zqf, zqg, zqh]
 refine lPq 6 (some 11) (v := ?_) rfl ?_ (keep_of hH0) ?_
 rotate_left
 ·intro w; go_simp <;> with_reducible rfl
 try simp only [Act.put, zqf, zqg, zqh]
 refine lTq 3 (some 8) (v := ?_) rfl ?_ hH0 ?_
 rotate_left
 ·intro w hSw; (try dsimp only at hSw); go_simp <;> with_reducible rfl
 try simp only [Act.put, zqf, zqg, zqh]
 refine lTq 7 (some 12) (v := ?_) rfl ?_ hH0 ?_
 rotate_left
 ·intro w hSw; (try dsimp only at hSw); go_simp <;> with_reducible rfl
 try simp only [Act.put, zqf, zqg, zqh]
 refine lPq 8 (some 13) (v := ?_) rfl ?_ (keep_of hH0) ?_
 rotate_left
 ·intro w; go_simp <;> with_reducible rfl
 try simp only [Act.put, zqf, zqg, zqh]
 refine lTq 9 (some 14) (v := ?_) rfl ?_ hH0 ?_
 rotate_left
 ·intro w hSw; (try dsimp only at hSw); go_simp <;> with_reducible rfl
 try simp only [Act.put, zqf, zqg, zqh]
 refine lOne 10 (by kernel_rfl) (LStep.op (fun K hK => ?_))
 have H9 := H0.out.allocR (tokV 0 0 0 ⟨#[]⟩) 92
 have K9 := (Below.refl wq0.heap.size wq0).alloc (Nat.le_refl _) (.cells (tokV 0 0 0 ⟨#[]⟩) 92)
 have k0 := cell_below K9 hH0.1
 have k1 := cell_below K9 hH0.2.1
 have k2 := cell_below K9 hH0.2.2.1
 have k3 := cell_below K9 hH0.2.2.2.1
 have k4 := cell_below K9 hH0.2.2.2.2.1
 have k5 := cell_below K9 hH0.2.2.2.2.2
 go_simp
 generalize htb : wq0.heap.size = qb at H9 ⊢
 generalize hw : wq0.alloc (.cells (tokV 0 0 0 ⟨#[]⟩) 92) = wq1 at H9 k0 k1 k2 k3 k4 k5 ⊢
 have H1 := Tre.hid H9
 have K0 := Tre.hid k0
 have K1 := Tre.hid k1
 have K2 := Tre.hid k2
 have K3 := Tre.hid k3
 have K4 := Tre.hid k4
 have K5 := Tre.hid k5
 clear H9 K9 hw htb k0 k1 k2 k3 k4 k5
 refine hK.out _ _ ?_ (fun hH1 => ?_)
 ·exact ⟨K0.out, K1.out, K2.out, K3.out, K4.out, K5.out⟩
 clear hK K hH0
 try simp only [Act.put, zqf, zqg, zqh]
 refine lOne 11 (by kernel_rfl) (LFall.op (by kernel_rfl) (fun K hK => ?_))
 have g0 := H1.out.cell 0 rfl 0 rfl
 have g1 := H1.out.cell 0 rfl 1 rfl
 have g2 := H1.out.cell 0 rfl 2 rfl
 have g3 := H1.out.cell 0 rfl 3 rfl
 have f0 := H1.out.free 0 rfl 0
 have f1 := H1.out.free 0 rfl 1
 have f2 := H1.out.free 0 rfl 2
 have f3 := H1.out.free 0 rfl 3
 have H9 := ((((H1.out.setCell 0 rfl 0 (.int .i64 q.kind)).setCell 0 rfl 1 (.int .i64 q.at_)).setCell 0 rfl 2 (.int .i64 q.n)).setCell 0 rfl 3 (.string ⟨q.s.toArray⟩))
 go_simp
 generalize hw : ((((wq1.setCell ⟨qb, 0, none⟩ (.int .i64 q.kind)).setCell ⟨qb, 1, none⟩ (.int .i64 q.at_)).setCell ⟨qb, 2, none⟩ (.int .i64 q.n)).setCell ⟨qb, 3, none⟩ (.string ⟨q.s.toArray⟩)) = wq2 at H9 ⊢
 have H2 : Hid (Mem w0 wq2 (cellsR qb 92 (tokV q.kind q.at_ q.n ⟨q.s.toArray⟩) :: cellsR rb 28 #[.int .i64 0, .string ⟨#[]⟩, .slice none 0 0, .slice none 0 0, .bool false] :: parR b (some ⟨bt, ot, none⟩) l.length c i :: rs)) := H9
 clear hw H9 g0 g1 g2 g3 f0 f1 f2 f3
 refine hK.out _ _ ?_
 clear hK K hH1
 try simp only [Act.put, zqf, zqg, zqh]
 refine lDone (by kernel_rfl) ?_
 have y0 := H2.out.cell 0 rfl 0 rfl
 have y3 := H2.out.cell 0 rfl 3 rfl
 by_cases hk5 : q.kind = 5
 ·have e5 : ((q.kind : Int) == 5) = true := by rw [hk5]; rfl
  have HW : Hid (wd l i 5 = some q.s) := by show _ = _; unfold wd; rw [HQ.out]; exact if_pos hk5
  have hp' := HP.out
  rw [HW.out] at hp'
  simp only [zqe, Prod.mk.injEq] at hp'
  obtain ⟨rfl, rfl⟩ := hp'
  clear hk5 HP
  go_wp2_with fail
  refine (word w0 _ b _ c l i 5 _ (H2.out.front 2 rfl) HL.out hi hll q.s HW.out).mono ?_
  rintro e w3 ⟨rfl, M3⟩
  have HJ := Tre.hid (wd_lt HE.out (by omega) HW.out)
  have HM3 := Tre.hid M3
  clear M3
  have MT : Mem w0 w3 (cellsR rb 28 #[.int .i64 0, .string ⟨#[]⟩, .slice none 0 0, .slice none 0 0, .bool false] :: _) := HM3.out.front 2 rfl
  have g0 : w3.cell? ⟨rb, 0, none⟩ = some (.int .i64 0) := MT.cell 0 rfl 0 rfl
  have g1 : w3.cell? ⟨rb, 1, none⟩ = some (.string ⟨#[]⟩) := MT.cell 0 rfl 1 rfl
  have g2 : w3.cell? ⟨rb, 2, none⟩ = some (.slice none 0 0) := MT.cell 0 rfl 2 rfl
  have g3 : w3.cell? ⟨rb, 3, none⟩ = some (.slice none 0 0) := MT.cell 0 rfl 3 rfl
  have g4 : w3.cell? ⟨rb, 4, none⟩ = some (.bool false) := MT.cell 0 rfl 4 rfl
  have f0 := MT.free 0 rfl 0
  have f1 := MT.free 0 rfl 1
  have f2 := MT.free 0 rfl 2
  have f3 := MT.free 0 rfl 3
  have f4 := MT.free 0 rfl 4
  have M6 : Mem w0 (((((w3.setCell ⟨rb, 0, none⟩ (.int .i64 1)).setCell ⟨rb, 1, none⟩ (.string ⟨q.s.toArray⟩)).setCell ⟨rb, 2, none⟩ (.slice none 0 0)).setCell ⟨rb, 3, none⟩ (.slice none 0 0)).setCell ⟨rb, 4, none⟩ (.bool false)) (cellsR rb 28 #[.int .i64 1, .string ⟨q.s.toArray⟩, .slice none 0 0, .slice none 0 0, .bool false] :: _) := (((((MT.setCell 0 rfl 0 (.int .i64 1)).setCell 0 rfl 1 (.string ⟨q.s.toArray⟩)).setCell 0 rfl 2 (.slice none 0 0)).setCell 0 rfl 3 (.slice none 0 0)).setCell 0 rfl 4 (.bool false))
  have HM6 := Tre.hid M6
  clear M6 MT
  go_wp2_with fail
  have z0 : (((((w3.setCell ⟨rb, 0, none⟩ (.int .i64 1)).setCell ⟨rb, 1, none⟩ (.string ⟨q.s.toArray⟩)).setCell ⟨rb, 2, none⟩ (.slice none 0 0)).setCell ⟨rb, 3, none⟩ (.slice none 0 0)).setCell ⟨rb, 4, none⟩ (.bool false)).cell? ⟨rb, 0, none⟩ = some (.int .i64 1) := HM6.out.cell 0 rfl 0 rfl
  have z1 : (((((w3.setCell ⟨rb, 0, none⟩ (.int .i64 1)).setCell ⟨rb, 1, none⟩ (.string ⟨q.s.toArray⟩)).setCell ⟨rb, 2, none⟩ (.slice none 0 0)).setCell ⟨rb, 3, none⟩ (.slice none 0 0)).setCell ⟨rb, 4, none⟩ (.bool false)).cell? ⟨rb, 1, none⟩ = some (.string ⟨q.s.toArray⟩) := HM6.out.cell 0 rfl 1 rfl
  have z2 : (((((w3.setCell ⟨rb, 0, none⟩ (.int .i64 1)).setCell ⟨rb, 1, none⟩ (.string ⟨q.s.toArray⟩)).setCell ⟨rb, 2, none⟩ (.slice none 0 0)).setCell ⟨rb, 3, none⟩ (.slice none 0 0)).setCell ⟨rb, 4, none⟩ (.bool false)).cell? ⟨rb, 2, none⟩ = some (.slice none 0 0) := HM6.out.cell 0 rfl 2 rfl
  have z3 : (((((w3.setCell ⟨rb, 0, none⟩ (.int .i64 1)).setCell ⟨rb, 1, none⟩ (.string ⟨q.s.toArray⟩)).setCell ⟨rb, 2, none⟩ (.slice none 0 0)).setCell ⟨rb, 3, none⟩ (.slice none 0 0)).setCell ⟨rb, 4, none⟩ (.bool false)).cell? ⟨rb, 3, none⟩ = some (.slice none 0 0) := HM6.out.cell 0 rfl 3 rfl
  have z4 : (((((w3.setCell ⟨rb, 0, none⟩ (.int .i64 1)).setCell ⟨rb, 1, none⟩ (.string ⟨q.s.toArray⟩)).setCell ⟨rb, 2, none⟩ (.slice none 0 0)).setCell ⟨rb, 3, none⟩ (.slice none 0 0)).setCell ⟨rb, 4, none⟩ (.bool false)).cell? ⟨rb, 4, none⟩ = some (.bool false) := HM6.out.cell 0 rfl 4 rfl
  refine bodyPost_ret (v := .agg #[.int .i64 1, .string ⟨q.s.toArray⟩, .slice none 0 0, .slice none 0 0, .bool false]) (by simp [results, Tryz.results62, go_sem, z0, z1, z2, z3, z4]) rfl ?_
  have HR := HM6.out.drop1
  exact ⟨_, none, 0, none, 0, rfl, HJ.out, Mem.tyMake (kids := []) (labels := []) 1 q.s false (((HR.del 1).addNil 9 1).addNil 28 5) rfl rfl rfl⟩
 ·have e5 : ((q.kind : Int) == 5) = false := beq_eq_false_iff_ne.2 (by omega)
  have HW5 : Hid (wd l i 5 = none) := by show _ = _; unfold wd; rw [HQ.out]; exact if_neg hk5
  by_cases hk1 : q.kind = 1
  ·have e1 : ((q.kind : Int) == 1) = true := by rw [hk1]; rfl
   have HW : Hid (wd l i 1 = some q.s) := by show _ = _; unfold wd; rw [HQ.out]; exact if_pos hk1
   have hp' := HP.out
   rw [HW5.out, HW.out] at hp'
   simp only at hp'
   have hbs : basics.contains q.s = true := by
    cases hb : basics.contains q.s
    ·rw [hb] at hp'; simp at hp'
    ·rfl
   rw [hbs, if_pos rfl] at hp'
   simp only [zqe, Prod.mk.injEq] at hp'
   obtain ⟨rfl, rfl⟩ := hp'
   have MR := (H2.out.allocRow #[.string ⟨#[105, 110, 116]⟩, .string ⟨#[98, 111, 111, 108]⟩, .string ⟨#[115, 116, 114, 105, 110, 103]⟩, .string ⟨#[117, 110, 105, 116]⟩] 9 1 4 (by unfold maxLen; omega) rfl)
   have HR := Tre.hid MR
   have y4 : (wq2.alloc (.cells #[.string ⟨#[105, 110, 116]⟩, .string ⟨#[98, 111, 111, 108]⟩, .string ⟨#[115, 116, 114, 105, 110, 103]⟩, .string ⟨#[117, 110, 105, 116]⟩] 9)).cell? ⟨qb, 3, none⟩ = some (.string ⟨q.s.toArray⟩) := MR.cell 1 rfl 3 rfl
   have HSA : Hid (StrsAt (wq2.alloc (.cells #[.string ⟨#[105, 110, 116]⟩, .string ⟨#[98, 111, 111, 108]⟩, .string ⟨#[115, 116, 114, 105, 110, 103]⟩, .string ⟨#[117, 110, 105, 116]⟩] 9)) (some ⟨wq2.heap.size, 0, none⟩) basicsB) := ⟨rfl, fun j u hj => ⟨_, 0, rfl, by rw [Nat.zero_add]; exact MR.cellAt 0 rfl j hj⟩⟩
   have HBS := Tre.hid (basics_any hbs)
   clear hk1 hbs HP MR hk5
   go_wp2_with fail
   refine (containsStrs _ 4 basicsB ⟨q.s.toArray⟩ _ HSA.out (by decide) true HBS.out).mono ?_
   rintro e w2 ⟨rfl, rfl⟩
   go_wp2_with fail
   refine (word w0 _ b _ c l i 1 _ ((H2.out.alloc _).front 2 rfl) HL.out hi hll q.s HW.out).mono ?_
   rintro e w3 ⟨rfl, M3⟩
   have HJ := Tre.hid (wd_lt HE.out (by omega) HW.out)
   have HM3 := Tre.hid M3
   clear M3
   have MT : Mem w0 w3 (cellsR rb 28 #[.int .i64 0, .string ⟨#[]⟩, .slice none 0 0, .slice none 0 0, .bool false] :: _) := HM3.out.front 2 rfl
   have g0 : w3.cell? ⟨rb, 0, none⟩ = some (.int .i64 0) := MT.cell 0 rfl 0 rfl
   have g1 : w3.cell? ⟨rb, 1, none⟩ = some (.string ⟨#[]⟩) := MT.cell 0 rfl 1 rfl
   have g2 : w3.cell? ⟨rb, 2, none⟩ = some (.slice none 0 0) := MT.cell 0 rfl 2 rfl
   have g3 : w3.cell? ⟨rb, 3, none⟩ = some (.slice none 0 0) := MT.cell 0 rfl 3 rfl
   have g4 : w3.cell? ⟨rb, 4, none⟩ = some (.bool false) := MT.cell 0 rfl 4 rfl
   have f0 := MT.free 0 rfl 0
   have f1 := MT.free 0 rfl 1
   have f2 := MT.free 0 rfl 2
   have f3 := MT.free 0 rfl 3
   have f4 := MT.free 0 rfl 4
   have M6 : Mem w0 (((((w3.setCell ⟨rb, 0, none⟩ (.int .i64 2)).setCell ⟨rb, 1, none⟩ (.string ⟨q.s.toArray⟩)).setCell ⟨rb, 2, none⟩ (.slice none 0 0)).setCell ⟨rb, 3, none⟩ (.slice none 0 0)).setCell ⟨rb, 4, none⟩ (.bool false)) (cellsR rb 28 #[.int .i64 2, .string ⟨q.s.toArray⟩, .slice none 0 0, .slice none 0 0, .bool false] :: _) := (((((MT.setCell 0 rfl 0 (.int .i64 2)).setCell 0 rfl 1 (.string ⟨q.s.toArray⟩)).setCell 0 rfl 2 (.slice none 0 0)).setCell 0 rfl 3 (.slice none 0 0)).setCell 0 rfl 4 (.bool false))
   have HM6 := Tre.hid M6
   clear M6 MT
   go_wp2_with fail
   have z0 : (((((w3.setCell ⟨rb, 0, none⟩ (.int .i64 2)).setCell ⟨rb, 1, none⟩ (.string ⟨q.s.toArray⟩)).setCell ⟨rb, 2, none⟩ (.slice none 0 0)).setCell ⟨rb, 3, none⟩ (.slice none 0 0)).setCell ⟨rb, 4, none⟩ (.bool false)).cell? ⟨rb, 0, none⟩ = some (.int .i64 2) := HM6.out.cell 0 rfl 0 rfl
   have z1 : (((((w3.setCell ⟨rb, 0, none⟩ (.int .i64 2)).setCell ⟨rb, 1, none⟩ (.string ⟨q.s.toArray⟩)).setCell ⟨rb, 2, none⟩ (.slice none 0 0)).setCell ⟨rb, 3, none⟩ (.slice none 0 0)).setCell ⟨rb, 4, none⟩ (.bool false)).cell? ⟨rb, 1, none⟩ = some (.string ⟨q.s.toArray⟩) := HM6.out.cell 0 rfl 1 rfl
   have z2 : (((((w3.setCell ⟨rb, 0, none⟩ (.int .i64 2)).setCell ⟨rb, 1, none⟩ (.string ⟨q.s.toArray⟩)).setCell ⟨rb, 2, none⟩ (.slice none 0 0)).setCell ⟨rb, 3, none⟩ (.slice none 0 0)).setCell ⟨rb, 4, none⟩ (.bool false)).cell? ⟨rb, 2, none⟩ = some (.slice none 0 0) := HM6.out.cell 0 rfl 2 rfl
   have z3 : (((((w3.setCell ⟨rb, 0, none⟩ (.int .i64 2)).setCell ⟨rb, 1, none⟩ (.string ⟨q.s.toArray⟩)).setCell ⟨rb, 2, none⟩ (.slice none 0 0)).setCell ⟨rb, 3, none⟩ (.slice none 0 0)).setCell ⟨rb, 4, none⟩ (.bool false)).cell? ⟨rb, 3, none⟩ = some (.slice none 0 0) := HM6.out.cell 0 rfl 3 rfl
   have z4 : (((((w3.setCell ⟨rb, 0, none⟩ (.int .i64 2)).setCell ⟨rb, 1, none⟩ (.string ⟨q.s.toArray⟩)).setCell ⟨rb, 2, none⟩ (.slice none 0 0)).setCell ⟨rb, 3, none⟩ (.slice none 0 0)).setCell ⟨rb, 4, none⟩ (.bool false)).cell? ⟨rb, 4, none⟩ = some (.bool false) := HM6.out.cell 0 rfl 4 rfl
   refine bodyPost_ret (v := .agg #[.int .i64 2, .string ⟨q.s.toArray⟩, .slice none 0 0, .slice none 0 0, .bool false]) (by simp [results, Tryz.results62, go_sem, z0, z1, z2, z3, z4]) rfl ?_
   have HR := HM6.out.drop1
   exact ⟨_, none, 0, none, 0, rfl, HJ.out, Mem.tyMake (kids := []) (labels := []) 2 q.s false (((HR.del 1).addNil 9 1).addNil 28 5) rfl rfl rfl⟩
  ·have e1 : ((q.kind : Int) == 1) = false := beq_eq_false_iff_ne.2 (by omega)
   have HW : Hid (wd l i 1 = none) := by show _ = _; unfold wd; rw [HQ.out]; exact if_neg hk1
   have hp' := HP.out
   rw [HW5.out, HW.out] at hp'
   simp only at hp'
   clear hk5 hk1
   go_wp2_with fail
   by_cases ht : tk l i 6 [40] = true
   ·rw [if_pos ht] at hp'
    obtain ⟨⟨t1, i1⟩, h1, h2⟩ := Option.bind_eq_some_iff.1 hp'
    simp only at h2
    have hcl : tk l i1 6 [41] = true := by
     cases hb : tk l i1 6 [41]
     ·rw [hb] at h2; simp at h2
     ·rfl
    rw [hcl, if_pos rfl] at h2
    simp only [zqe, Prod.mk.injEq] at h2
    obtain ⟨rfl, rfl⟩ := h2
    have HT := Tre.hid ht
    have HC := Tre.hid hcl
    have HP1 := Tre.hid h1
    have HI2 := Tre.hid (tk_lt HE.out (by omega) ht)
    clear ht hcl h1 hp' HP
    refine (takes w0 _ b _ c l i 6 ⟨#[40]⟩ _ (H2.out.front 2 rfl) HL.out hi hll true HT.out).mono ?_
    rintro e w3 ⟨rfl, M3⟩
    rw [if_pos rfl] at M3
    have HM3 := Tre.hid M3
    clear M3
    go_wp2_with fail
    refine (IH.out _ 0 (i + 1) i1 t1 _ HI2.out (by omega) HP1.out HM3.out).mono ?_
    rintro e w4 ⟨O, aa, ca, al, cl, rfl, hj1, M4⟩
    have M5 := M4.allocR #[.int .i64 (t1.kind : Int), .string ⟨t1.s.toArray⟩, .slice aa t1.args.length ca, .slice al t1.labels.length cl, .bool t1.opn] 28
    have HM5 := Tre.hid M5
    have HJ1 := Tre.hid hj1
    generalize hnb : w4.heap.size = nb at HM5
    clear M4 M5 hj1
    go_wp2_with fail
    refine (need w0 _ b _ c l i1 ⟨#[41]⟩ _ (HM5.out.front 2 rfl) HL.out HJ1.out hll HC.out).mono ?_
    rintro e w6 ⟨rfl, M6⟩
    have HJ := Tre.hid (tk_lt HE.out (by omega) HC.out)
    have HM7 := Tre.hid M6
    clear M6
    have v0 : w6.cell? ⟨nb, 0, none⟩ = some (.int .i64 (t1.kind : Int)) := HM7.out.cell 1 rfl 0 rfl
    have v1 : w6.cell? ⟨nb, 1, none⟩ = some (.string ⟨t1.s.toArray⟩) := HM7.out.cell 1 rfl 1 rfl
    have v2 : w6.cell? ⟨nb, 2, none⟩ = some (.slice aa t1.args.length ca) := HM7.out.cell 1 rfl 2 rfl
    have v3 : w6.cell? ⟨nb, 3, none⟩ = some (.slice al t1.labels.length cl) := HM7.out.cell 1 rfl 3 rfl
    have v4 : w6.cell? ⟨nb, 4, none⟩ = some (.bool t1.opn) := HM7.out.cell 1 rfl 4 rfl
    have MT : Mem w0 w6 (cellsR rb 28 #[.int .i64 0, .string ⟨#[]⟩, .slice none 0 0, .slice none 0 0, .bool false] :: _) := HM7.out.front 4 rfl
    have g0 : w6.cell? ⟨rb, 0, none⟩ = some (.int .i64 0) := MT.cell 0 rfl 0 rfl
    have g1 : w6.cell? ⟨rb, 1, none⟩ = some (.string ⟨#[]⟩) := MT.cell 0 rfl 1 rfl
    have g2 : w6.cell? ⟨rb, 2, none⟩ = some (.slice none 0 0) := MT.cell 0 rfl 2 rfl
    have g3 : w6.cell? ⟨rb, 3, none⟩ = some (.slice none 0 0) := MT.cell 0 rfl 3 rfl
    have g4 : w6.cell? ⟨rb, 4, none⟩ = some (.bool false) := MT.cell 0 rfl 4 rfl
    have f0 := MT.free 0 rfl 0
    have f1 := MT.free 0 rfl 1
    have f2 := MT.free 0 rfl 2
    have f3 := MT.free 0 rfl 3
    have f4 := MT.free 0 rfl 4
    have M6 : Mem w0 (((((w6.setCell ⟨rb, 0, none⟩ (.int .i64 (t1.kind : Int))).setCell ⟨rb, 1, none⟩ (.string ⟨t1.s.toArray⟩)).setCell ⟨rb, 2, none⟩ (.slice aa t1.args.length ca)).setCell ⟨rb, 3, none⟩ (.slice al t1.labels.length cl)).setCell ⟨rb, 4, none⟩ (.bool t1.opn)) (cellsR rb 28 #[.int .i64 (t1.kind : Int), .string ⟨t1.s.toArray⟩, .slice aa t1.args.length ca, .slice al t1.labels.length cl, .bool t1.opn] :: _) := (((((MT.setCell 0 rfl 0 (.int .i64 (t1.kind : Int))).setCell 0 rfl 1 (.string ⟨t1.s.toArray⟩)).setCell 0 rfl 2 (.slice aa t1.args.length ca)).setCell 0 rfl 3 (.slice al t1.labels.length cl)).setCell 0 rfl 4 (.bool t1.opn))
    have HM6 := Tre.hid M6
    clear M6 MT
    go_wp2_with fail
    have z0 : (((((w6.setCell ⟨rb, 0, none⟩ (.int .i64 (t1.kind : Int))).setCell ⟨rb, 1, none⟩ (.string ⟨t1.s.toArray⟩)).setCell ⟨rb, 2, none⟩ (.slice aa t1.args.length ca)).setCell ⟨rb, 3, none⟩ (.slice al t1.labels.length cl)).setCell ⟨rb, 4, none⟩ (.bool t1.opn)).cell? ⟨rb, 0, none⟩ = some (.int .i64 (t1.kind : Int)) := HM6.out.cell 0 rfl 0 rfl
    have z1 : (((((w6.setCell ⟨rb, 0, none⟩ (.int .i64 (t1.kind : Int))).setCell ⟨rb, 1, none⟩ (.string ⟨t1.s.toArray⟩)).setCell ⟨rb, 2, none⟩ (.slice aa t1.args.length ca)).setCell ⟨rb, 3, none⟩ (.slice al t1.labels.length cl)).setCell ⟨rb, 4, none⟩ (.bool t1.opn)).cell? ⟨rb, 1, none⟩ = some (.string ⟨t1.s.toArray⟩) := HM6.out.cell 0 rfl 1 rfl
    have z2 : (((((w6.setCell ⟨rb, 0, none⟩ (.int .i64 (t1.kind : Int))).setCell ⟨rb, 1, none⟩ (.string ⟨t1.s.toArray⟩)).setCell ⟨rb, 2, none⟩ (.slice aa t1.args.length ca)).setCell ⟨rb, 3, none⟩ (.slice al t1.labels.length cl)).setCell ⟨rb, 4, none⟩ (.bool t1.opn)).cell? ⟨rb, 2, none⟩ = some (.slice aa t1.args.length ca) := HM6.out.cell 0 rfl 2 rfl
    have z3 : (((((w6.setCell ⟨rb, 0, none⟩ (.int .i64 (t1.kind : Int))).setCell ⟨rb, 1, none⟩ (.string ⟨t1.s.toArray⟩)).setCell ⟨rb, 2, none⟩ (.slice aa t1.args.length ca)).setCell ⟨rb, 3, none⟩ (.slice al t1.labels.length cl)).setCell ⟨rb, 4, none⟩ (.bool t1.opn)).cell? ⟨rb, 3, none⟩ = some (.slice al t1.labels.length cl) := HM6.out.cell 0 rfl 3 rfl
    have z4 : (((((w6.setCell ⟨rb, 0, none⟩ (.int .i64 (t1.kind : Int))).setCell ⟨rb, 1, none⟩ (.string ⟨t1.s.toArray⟩)).setCell ⟨rb, 2, none⟩ (.slice aa t1.args.length ca)).setCell ⟨rb, 3, none⟩ (.slice al t1.labels.length cl)).setCell ⟨rb, 4, none⟩ (.bool t1.opn)).cell? ⟨rb, 4, none⟩ = some (.bool t1.opn) := HM6.out.cell 0 rfl 4 rfl
    refine bodyPost_ret (v := .agg #[.int .i64 (t1.kind : Int), .string ⟨t1.s.toArray⟩, .slice aa t1.args.length ca, .slice al t1.labels.length cl, .bool t1.opn]) (by simp [results, Tryz.results62, go_sem, z0, z1, z2, z3, z4]) rfl ?_
    have HR := HM6.out.drop1
    exact ⟨O, aa, ca, al, cl, rfl, HJ.out, ((HR.del 3).del 1).front 1 rfl⟩
   ·rw [if_neg ht] at hp'
    have hlt : tk l i 6 [60] = true := by
     cases hb : tk l i 6 [60]
     ·rw [hb] at hp'; simp at hp'
     ·rfl
    rw [hlt, if_pos rfl] at hp'
    have HP1 := Tre.hid hp'
    have HT : Hid (tk l i 6 [40] = false) := by show _ = _; simpa using ht
    have HC := Tre.hid hlt
    have HI2 := Tre.hid (tk_lt HE.out (by omega) hlt)
    clear ht hlt hp' HP
    refine (takes w0 _ b _ c l i 6 ⟨#[40]⟩ _ (H2.out.front 2 rfl) HL.out hi hll false HT.out).mono ?_
    rintro e w3 ⟨rfl, M3⟩
    rw [if_neg (by simp)] at M3
    have HM3 := Tre.hid M3
    clear M3
    go_wp2_with fail
    refine (need w0 _ b _ c l i ⟨#[60]⟩ _ HM3.out HL.out hi hll HC.out).mono ?_
    rintro e w4 ⟨rfl, M4⟩
    have HM4 := Tre.hid M4
    clear M4
    go_wp2_with fail
    refine (HO.out _ (i + 1) j t _ HI2.out HP1.out HM4.out).mono ?_
    rintro e w5 ⟨O, aa, ca, al, cl, rfl, hj1, M5⟩
    have HJ := Tre.hid hj1
    have HM5 := Tre.hid M5
    clear M5 hj1
    have MT : Mem w0 w5 (cellsR rb 28 #[.int .i64 0, .string ⟨#[]⟩, .slice none 0 0, .slice none 0 0, .bool false] :: _) := HM5.out.front 3 rfl
    have g0 : w5.cell? ⟨rb, 0, none⟩ = some (.int .i64 0) := MT.cell 0 rfl 0 rfl
    have g1 : w5.cell? ⟨rb, 1, none⟩ = some (.string ⟨#[]⟩) := MT.cell 0 rfl 1 rfl
    have g2 : w5.cell? ⟨rb, 2, none⟩ = some (.slice none 0 0) := MT.cell 0 rfl 2 rfl
    have g3 : w5.cell? ⟨rb, 3, none⟩ = some (.slice none 0 0) := MT.cell 0 rfl 3 rfl
    have g4 : w5.cell? ⟨rb, 4, none⟩ = some (.bool false) := MT.cell 0 rfl 4 rfl
    have f0 := MT.free 0 rfl 0
    have f1 := MT.free 0 rfl 1
    have f2 := MT.free 0 rfl 2
    have f3 := MT.free 0 rfl 3
    have f4 := MT.free 0 rfl 4
    have M6 : Mem w0 (((((w5.setCell ⟨rb, 0, none⟩ (.int .i64 (t.kind : Int))).setCell ⟨rb, 1, none⟩ (.string ⟨t.s.toArray⟩)).setCell ⟨rb, 2, none⟩ (.slice aa t.args.length ca)).setCell ⟨rb, 3, none⟩ (.slice al t.labels.length cl)).setCell ⟨rb, 4, none⟩ (.bool t.opn)) (cellsR rb 28 #[.int .i64 (t.kind : Int), .string ⟨t.s.toArray⟩, .slice aa t.args.length ca, .slice al t.labels.length cl, .bool t.opn] :: _) := (((((MT.setCell 0 rfl 0 (.int .i64 (t.kind : Int))).setCell 0 rfl 1 (.string ⟨t.s.toArray⟩)).setCell 0 rfl 2 (.slice aa t.args.length ca)).setCell 0 rfl 3 (.slice al t.labels.length cl)).setCell 0 rfl 4 (.bool t.opn))
    have HM6 := Tre.hid M6
    clear M6 MT
    go_wp2_with fail
    have z0 : (((((w5.setCell ⟨rb, 0, none⟩ (.int .i64 (t.kind : Int))).setCell ⟨rb, 1, none⟩ (.string ⟨t.s.toArray⟩)).setCell ⟨rb, 2, none⟩ (.slice aa t.args.length ca)).setCell ⟨rb, 3, none⟩ (.slice al t.labels.length cl)).setCell ⟨rb, 4, none⟩ (.bool t.opn)).cell? ⟨rb, 0, none⟩ = some (.int .i64 (t.kind : Int)) := HM6.out.cell 0 rfl 0 rfl
    have z1 : (((((w5.setCell ⟨rb, 0, none⟩ (.int .i64 (t.kind : Int))).setCell ⟨rb, 1, none⟩ (.string ⟨t.s.toArray⟩)).setCell ⟨rb, 2, none⟩ (.slice aa t.args.length ca)).setCell ⟨rb, 3, none⟩ (.slice al t.labels.length cl)).setCell ⟨rb, 4, none⟩ (.bool t.opn)).cell? ⟨rb, 1, none⟩ = some (.string ⟨t.s.toArray⟩) := HM6.out.cell 0 rfl 1 rfl
    have z2 : (((((w5.setCell ⟨rb, 0, none⟩ (.int .i64 (t.kind : Int))).setCell ⟨rb, 1, none⟩ (.string ⟨t.s.toArray⟩)).setCell ⟨rb, 2, none⟩ (.slice aa t.args.length ca)).setCell ⟨rb, 3, none⟩ (.slice al t.labels.length cl)).setCell ⟨rb, 4, none⟩ (.bool t.opn)).cell? ⟨rb, 2, none⟩ = some (.slice aa t.args.length ca) := HM6.out.cell 0 rfl 2 rfl
    have z3 : (((((w5.setCell ⟨rb, 0, none⟩ (.int .i64 (t.kind : Int))).setCell ⟨rb, 1, none⟩ (.string ⟨t.s.toArray⟩)).setCell ⟨rb, 2, none⟩ (.slice aa t.args.length ca)).setCell ⟨rb, 3, none⟩ (.slice al t.labels.length cl)).setCell ⟨rb, 4, none⟩ (.bool t.opn)).cell? ⟨rb, 3, none⟩ = some (.slice al t.labels.length cl) := HM6.out.cell 0 rfl 3 rfl
    have z4 : (((((w5.setCell ⟨rb, 0, none⟩ (.int .i64 (t.kind : Int))).setCell ⟨rb, 1, none⟩ (.string ⟨t.s.toArray⟩)).setCell ⟨rb, 2, none⟩ (.slice aa t.args.length ca)).setCell ⟨rb, 3, none⟩ (.slice al t.labels.length cl)).setCell ⟨rb, 4, none⟩ (.bool t.opn)).cell? ⟨rb, 4, none⟩ = some (.bool t.opn) := HM6.out.cell 0 rfl 4 rfl
    refine bodyPost_ret (v := .agg #[.int .i64 (t.kind : Int), .string ⟨t.s.toArray⟩, .slice aa t.args.length ca, .slice al t.labels.length cl, .bool t.opn]) (by simp [results, Tryz.results62, go_sem, z0, z1, z2, z3, z4]) rfl ?_
    have HR := HM6.out.drop1
    exact ⟨O, aa, ca, al, cl, rfl, HJ.out, HR.del 2⟩
end Go.Proofs.YtbafalfmgibnfaaGreatDoor.typ
namespace Go.Tre
theorem parse_le (l : List Tok) : ∀ k, (∀ n i t j, pLev l k n i = some (t, j) → i ≤ j) ∧ (∀ t0 i t j, pAs l k t0 i = some (t, j) → i ≤ j) ∧ (∀ ls ts i t j, pObj l k ls ts i = some (t, j) → i ≤ j) := by
 intro k
 induction k with
 | zero =>
  refine ⟨fun n i t j h => ?_, fun t0 i t j h => ?_, fun ls ts i t j h => ?_⟩
  ·rw [pLev] at h; cases h
  ·rw [pAs] at h; cases h
  ·rw [pObj] at h; cases h
 | succ k ih =>
  obtain ⟨h1, h2, h3⟩ := ih
  refine ⟨fun n i t j h => ?_, fun t0 i t j h => ?_, fun ls ts i t j h => ?_⟩
  ·rw [pLev] at h
   split at h
   ·obtain ⟨r, e1, e2⟩ := Option.bind_eq_some_iff.1 h
    have := h1 _ _ _ _ e1
    have := h2 _ _ _ _ e2
    omega
   ·split at h
    ·obtain ⟨r, e1, e2⟩ := Option.bind_eq_some_iff.1 h
     have a1 := h1 _ _ _ _ e1
     split at e2
     ·obtain ⟨q, e3, e4⟩ := Option.map_eq_some_iff.1 e2
      have a2 := h1 _ _ _ _ e3
      cases e4; omega
     ·cases e2; omega
    ·split at h
     ·cases h; omega
     ·split at h
      ·split at h
       ·cases h; omega
       ·cases h
      ·split at h
       ·obtain ⟨r, e1, e2⟩ := Option.bind_eq_some_iff.1 h
        have a1 := h1 _ _ _ _ e1
        split at e2
        ·cases e2; omega
        ·cases e2
       ·split at h
        ·split at h
         ·cases h; omega
         ·have := h3 _ _ _ _ _ h
          omega
        ·cases h
  ·rw [pAs] at h
   split at h
   ·obtain ⟨r, e1, e2⟩ := Option.bind_eq_some_iff.1 h
    have := h2 _ _ _ _ e2
    omega
   ·cases h; omega
  ·rw [pObj] at h
   split at h
   ·split at h
    ·cases h; omega
    ·cases h
   ·obtain ⟨s, e1, e2⟩ := Option.bind_eq_some_iff.1 h
    split at e2
    ·obtain ⟨r, e3, e4⟩ := Option.bind_eq_some_iff.1 e2
     have a1 := h1 _ _ _ _ e3
     split at e4
     ·cases e4
     ·split at e4
      ·cases e4; omega
      ·split at e4
       ·have := h3 _ _ _ _ _ e4
        omega
       ·cases e4
    ·cases e2
theorem pLev_le {l : List Tok} {k n i j : Nat} {t : Ty} (h : pLev l k n i = some (t, j)) : i ≤ j := (parse_le l k).1 n i t j h
end Go.Tre
namespace Go.Proofs.YtbafalfmgibnfaaGreatDoor.typ
open Go.RowKit Go.Tre
theorem infoStr : (Tryz.prog.info? 9).map (fun i => (i.zero, i.size, i.bytes)) = some (some (.string ⟨#[]⟩), 1, 16) := by kernel_rfl
theorem infoTy : (Tryz.prog.info? 28).map (fun i => (i.zero, i.size, i.bytes)) = some (some (.agg #[.int .i64 0, .string ⟨#[]⟩, .slice none 0 0, .slice none 0 0, .bool false]), 5, 80) := by kernel_rfl
set_option maxRecDepth 100000 in
set_option maxHeartbeats 2000000 in
theorem insStr (w0 : World) (rs : List Res) (w : World) (al : Option Addr) (n cl nb : Nat) (xs : List Value) (u : Value) (hM : Mem w0 w (rowR 9 1 (.slice al n cl) n xs :: rowR 9 1 (.slice (some ⟨nb, 0, none⟩) 1 1) 1 [u] :: rs)) (hn : n ≤ 4194304) (hu : u.oneCell' = true) :
  Calls Tryz.prog 97 #[.slice al n cl, .int .i64 n, .slice (some ⟨nb, 0, none⟩) 1 1] w fun e w' => ∃ a c, e = .returned (.slice a (n + 1 : Nat) c) ∧ Mem w0 w' (rowR 9 1 (.slice a (n + 1) c) (n + 1) (xs ++ [u]) :: rowR 9 1 (.slice (some ⟨nb, 0, none⟩) 1 1) 1 [u] :: rs) := by
 obtain ⟨si, T1, T2, T3, T4⟩ := info_parts infoStr
 have K2 := Tre.hid T2
 have K3 := Tre.hid T3
 have K4 := Tre.hid T4
 obtain ⟨_, _, e, hcl⟩ := hM.val 0 rfl
 cases e
 have HM := Tre.hid hM
 have hnn : ((n : Int) == (n : Int)) = true := beq_self_eq_true _
 clear hM T2 T3 T4
 go_enter Tryz.func97, Tryz.ntmps97
 go_wp2_with (at_builtin; refine wpList_append_row _ rfl _ _ 26 rfl 9 si _ 1 16 Tryz.underlying26 T1 K2.out K3.out K4.out rfl (by omega) (.slice al n cl) n xs rfl (HM.out.row 0 rfl) (some ⟨nb, 0, none⟩) 1 1 [u] rfl ⟨rfl, fun j x hj => ⟨_, 0, rfl, by rw [Nat.zero_add]; exact HM.out.cellAt 1 rfl j hj⟩⟩ (by simpa using hu) (by unfold maxLen; omega) (by omega) ?_; intro v9 w9 hown9 hgrow9 hat9; have M9 := HM.out.grow 0 rfl hgrow9 hown9 hat9; obtain ⟨a9, c9, rfl, _⟩ := M9.val 0 rfl; have HM9 := Tre.hid M9; clear M9 hown9 hgrow9 hat9)
 all_goals
  go_ret
  exact ⟨a9, c9, rfl, HM9.out⟩
set_option maxRecDepth 100000 in
set_option maxHeartbeats 2000000 in
theorem insTy (w0 : World) (rs : List Res) (w : World) (al : Option Addr) (n cl nb : Nat) (xs us : List Value) (hM : Mem w0 w (rowR 28 5 (.slice al n cl) n xs :: rowR 28 5 (.slice (some ⟨nb, 0, none⟩) 1 1) 1 us :: rs)) (hn : n ≤ 4194304) (hu : ∀ u ∈ us, u.oneCell' = true) :
  Calls Tryz.prog 98 #[.slice al n cl, .int .i64 n, .slice (some ⟨nb, 0, none⟩) 1 1] w fun e w' => ∃ a c, e = .returned (.slice a (n + 1 : Nat) c) ∧ Mem w0 w' (rowR 28 5 (.slice a (n + 1) c) (n + 1) (xs ++ us) :: rowR 28 5 (.slice (some ⟨nb, 0, none⟩) 1 1) 1 us :: rs) := by
 obtain ⟨si, T1, T2, T3, T4⟩ := info_parts infoTy
 have K2 := Tre.hid T2
 have K3 := Tre.hid T3
 have K4 := Tre.hid T4
 obtain ⟨_, _, e, hcl⟩ := hM.val 0 rfl
 cases e
 have HM := Tre.hid hM
 have hlen : us.length = 1 * 5 := (hM.row 1 rfl).1
 have HL := Tre.hid hlen
 have HU := Tre.hid hu
 have hnn : ((n : Int) == (n : Int)) = true := beq_self_eq_true _
 clear hM T2 T3 T4 hlen hu
 go_enter Tryz.func98, Tryz.ntmps98
 go_wp2_with (at_builtin; refine wpList_append_row _ rfl _ _ 25 rfl 28 si _ 5 80 Tryz.underlying25 T1 K2.out K3.out K4.out rfl (by omega) (.slice al n cl) n xs rfl (HM.out.row 0 rfl) (some ⟨nb, 0, none⟩) 1 1 us rfl ⟨HL.out, fun j x hj => ⟨_, 0, rfl, by rw [Nat.zero_add]; exact HM.out.cellAt 1 rfl j hj⟩⟩ HU.out (by unfold maxLen; omega) (by omega) ?_; intro v9 w9 hown9 hgrow9 hat9; have M9 := HM.out.grow 0 rfl hgrow9 hown9 hat9; obtain ⟨a9, c9, rfl, _⟩ := M9.val 0 rfl; have HM9 := Tre.hid M9; clear M9 hown9 hgrow9 hat9)
 all_goals
  go_ret
  exact ⟨a9, c9, rfl, HM9.out⟩
end Go.Proofs.YtbafalfmgibnfaaGreatDoor.typ
namespace Go.Tre
open Go.RowKit
def apartR (kids : List Kid) : Res where
 own b := ∃ k ∈ kids, k.O b
 P w := (∀ k ∈ kids, (kidR k).P w) ∧ kids.Pairwise fun (x y : Kid) => ∀ b, x.O b → ¬ y.O b
 stable w w' h hs := ⟨fun k hk => (kidR k).stable _ _ (h.1 k hk) (fun b hb => hs b ⟨k, hk, hb⟩), h.2⟩
 has w h b hb := by obtain ⟨k, hk, hb⟩ := hb; exact (kidR k).has w (h.1 k hk) b hb
section
variable {w0 w : World} {rs : List Res}
theorem Mem.apartNil (h : Mem w0 w rs) : Mem w0 w (apartR [] :: rs) :=
 ⟨h.below, fun s hs => by
  rcases List.mem_cons.1 hs with rfl | hs
  ·exact ⟨⟨fun r hr => by simp at hr, List.Pairwise.nil⟩, fun b hb => by obtain ⟨r, hr, _⟩ := hb; simp at hr⟩
  ·exact h.all s hs, List.pairwise_cons.2 ⟨fun _ _ _ hb _ => by obtain ⟨r, hr, _⟩ := hb; simp at hr, h.sep⟩⟩
theorem Mem.apartInto {k : Kid} {kids : List Kid} (h : Mem w0 w (kidR k :: apartR kids :: rs)) : Mem w0 w (apartR (kids ++ [k]) :: rs) := by
 have hs := List.pairwise_cons.1 h.sep
 have hj := h.join
 refine hj.as_ 0 rfl (apartR (kids ++ [k])) (fun hp => ⟨?_, ?_⟩) (fun b hb => ?_)
 ·intro x hx
  rcases List.mem_append.1 hx with hx | hx
  ·exact hp.2.1 x hx
  ·simp at hx; subst hx; exact hp.1
 ·refine List.pairwise_append.2 ⟨hp.2.2, List.pairwise_singleton _ _, fun x hx y hy b hb hb' => ?_⟩
  simp at hy; subst hy
  exact hs.1 (apartR kids) (by simp) b hb' ⟨x, hx, hb⟩
 ·obtain ⟨x, hx, hb⟩ := hb
  rcases List.mem_append.1 hx with hx | hx
  ·exact .inr ⟨x, hx, hb⟩
  ·simp at hx; subst hx; exact .inl hb
theorem Mem.apartOut {kids : List Kid} (h : Mem w0 w (apartR kids :: rs)) : Mem w0 w (kids.map kidR ++ rs) := by
 have hs := List.pairwise_cons.1 h.sep
 have hp := h.all _ (List.mem_cons_self ..)
 refine ⟨h.below, fun r hr => ?_, List.pairwise_append.2 ⟨List.pairwise_map.2 hp.1.2, hs.2, fun a ha r hr b hb hb' => ?_⟩⟩
 ·rcases List.mem_append.1 hr with hr | hr
  ·obtain ⟨k, hk, rfl⟩ := List.mem_map.1 hr
   exact ⟨hp.1.1 k hk, fun b hb => hp.2 b ⟨k, hk, hb⟩⟩
  ·exact h.all r (by simp [hr])
 ·obtain ⟨k, hk, rfl⟩ := List.mem_map.1 ha
  exact hs.1 r hr b ⟨k, hk, hb⟩ hb'
theorem Mem.apartRows {kids : List Kid} {r s : Res} (h : Mem w0 w (r :: s :: apartR kids :: rs)) : Mem w0 w (r :: s :: (kids.map kidR ++ rs)) :=
 ((h.front 2 rfl).apartOut : Mem w0 w (kids.map kidR ++ r :: s :: rs)).perm (List.perm_middle.trans (List.Perm.cons _ List.perm_middle))
theorem kidCells_snoc (kids : List Kid) (k : Kid) : kidCells (kids ++ [k]) = kidCells kids ++ k.V.toList := by simp [kidCells]
end
end Go.Tre
