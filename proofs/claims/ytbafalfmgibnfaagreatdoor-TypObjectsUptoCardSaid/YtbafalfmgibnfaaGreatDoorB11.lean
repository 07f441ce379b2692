/- typ: the parser's small steps: takes, need, word. -/
import Derived.Test.YtbafalfmgibnfaaGreatDoorB01
import Derived.Test.YtbafalfmgibnfaaGreatDoorB10
import Derived.Test.YtbafalfmgibnfaaGreatDoorB02
set_option linter.unusedVariables false
namespace Go.Tre
open Go.RowKit
abbrev parR (b : Nat) (a : Option Addr) (n c : Nat) (at_ : Nat) : Res := cellsR b 70 #[.slice a n c, .int .i64 (at_ : Int)]
end Go.Tre
namespace Go.Proofs.YtbafalfmgibnfaaGreatDoor.typ
open Go.RowKit Go.Tre
set_option maxRecDepth 100000 in
set_option maxHeartbeats 8000000 in
theorem takes (w0 : World) (rs : List Res) (b : Nat) (ad : Option Addr) (c : Nat) (l : List Tok) (i kind : Nat) (s : ByteArray) (w : World) (hM : Mem w0 w (parR b ad l.length c i :: rs)) (hl : ToksAt w0 ad l) (hi : i < l.length) (hll : l.length ≤ 4194304) (r : Bool) (hr : tk l i kind s.data.toList = r) :
  Calls Tryz.prog 60 #[.pointer (some ⟨b, 0, none⟩), .int .i64 kind, .string s] w fun e w' => e = .returned (.bool r) ∧ Mem w0 w' (parR b ad l.length c (if r = true then i + 1 else i) :: rs) := by
 obtain ⟨t, ht⟩ : ∃ t, l[i]? = some t := ⟨_, List.getElem?_eq_getElem hi⟩
 have htk : (decide (t.kind = kind) && decide (t.s = s.data.toList)) = r := by rw [← hr]; unfold tk; rw [ht]
 obtain ⟨bt, ot, rfl, a0, a1, a2, a3⟩ := (hl.below hM.below).tok ht
 obtain ⟨p0, p1⟩ := hM.two 0 rfl
 have HM := Tre.hid hM
 clear hM hl hr ht
 by_cases hk : t.kind = kind
 ·have e1 : (((t.kind : Int)) == (kind : Int)) = true := by rw [hk]; exact beq_self_eq_true _
  have e1' : (((t.kind : Int)) != (kind : Int)) = false := by rw [bne, e1]; rfl
  by_cases hs : s = (⟨t.s.toArray⟩ : ByteArray)
  ·subst hs
   have hrt : r = true := by rw [← htk]; simp [hk]
   subst hrt
   have es1 : ((⟨t.s.toArray⟩ : ByteArray).toList == (⟨t.s.toArray⟩ : ByteArray).toList) = true := beq_self_eq_true _
   have es2 : ((⟨t.s.toArray⟩ : ByteArray).toList != (⟨t.s.toArray⟩ : ByteArray).toList) = false := by rw [bne, es1]; rfl
   have ewr : IntKind.i64.wrap ((i : Int) + 1) = ((i + 1 : Nat) : Int) := IntWalk.i64_in _ (by omega)
   clear htk hk
   go_enter Tryz.func60, Tryz.ntmps60
   go_wp2_with fail
   have cS : Cond (fun w' => w'.cell? ⟨b, 0, none⟩ = some (.slice (some ⟨bt, ot, none⟩) l.length c) ∧ w'.cell? ⟨b, 1, none⟩ = some (.int .i64 i) ∧ w'.cell? ⟨bt, ot + i * 4, none⟩ = some (.int .i64 t.kind) ∧ w'.cell? ⟨bt, ot + i * 4 + 1, none⟩ = some (.int .i64 t.at_) ∧ w'.cell? ⟨bt, ot + i * 4 + 2, none⟩ = some (.int .i64 t.n) ∧ w'.cell? ⟨bt, ot + i * 4 + 3, none⟩ = some (.string ⟨t.s.toArray⟩)) := ⟨⟩
   refine cS.keep [11] ?_ (fun hH0 => ?_)
   ·exact ⟨p0, p1, a0, a1, a2, a3⟩
   have H0 := Tre.hid HM.out.drew
   generalize hq : w.drew = wq0 at H0 hH0 ⊢
   clear hq
   refine lPq 0 (some 8) (v := ?_) rfl ?_ (keep_of hH0) ?_
   rotate_left
   ·intro w; go_simp <;> with_reducible rfl
   try simp only [Act.put, zqf, zqg, zqh]
   refine lPq 1 (some 9) (v := ?_) rfl ?_ (keep_of hH0) ?_
   rotate_left
   ·intro w; go_simp <;> with_reducible rfl
   try simp only [Act.put, zqf, zqg, zqh]
   refine lPq 2 (some 10) (v := ?_) rfl ?_ (keep_of hH0) ?_
   rotate_left
   ·intro w; go_simp <;> with_reducible rfl
   try simp only [Act.put, zqf, zqg, zqh]
   refine lPq 4 (some 12) (v := ?_) rfl ?_ (keep_of hH0) ?_
   rotate_left
   ·intro w; go_simp <;> with_reducible rfl
   try simp only [Act.put, zqf, zqg, zqh]
   refine lPq 5 (some 13) (v := ?_) rfl ?_ (keep_of hH0) ?_
   rotate_left
   ·intro w; go_simp <;> with_reducible rfl
   try simp only [Act.put, zqf, zqg, zqh]
   refine lPq 6 (some 14) (v := ?_) rfl ?_ (keep_of hH0) ?_
   rotate_left
   ·intro w; go_simp <;> with_reducible rfl
   try simp only [Act.put, zqf, zqg, zqh]
   refine lTq 3 (some 11) (v := ?_) rfl ?_ hH0 ?_
   rotate_left
   ·intro w hSw; (try dsimp only at hSw); go_simp <;> with_reducible rfl
   try simp only [Act.put, zqf, zqg, zqh]
   refine lTq 7 (some 15) (v := ?_) rfl ?_ hH0 ?_
   rotate_left
   ·intro w hSw; (try dsimp only at hSw); go_simp <;> with_reducible rfl
   try simp only [Act.put, zqf, zqg, zqh]
   refine lPq 8 (some 16) (v := ?_) rfl ?_ (keep_of hH0) ?_
   rotate_left
   ·intro w; go_simp <;> with_reducible rfl
   try simp only [Act.put, zqf, zqg, zqh]
   refine lTq 9 (some 17) (v := ?_) rfl ?_ hH0 ?_
   rotate_left
   ·intro w hSw; (try dsimp only at hSw); go_simp <;> with_reducible rfl
   try simp only [Act.put, zqf, zqg, zqh]
   refine lOne 10 (by kernel_rfl) (LStep.op (fun K hK => ?_))
   have H9 := H0.out.allocR (tokV 0 0 0 ⟨#[]⟩) 92
   have K9 := (Below.refl wq0.heap.size wq0).alloc (Nat.le_refl _) (.cells (tokV 0 0 0 ⟨#[]⟩) 92)
   have k0 := cell_below K9 hH0.1
   have k1 := cell_below K9 hH0.2.1
   have k2 := cell_below K9 hH0.2.2.1
   have k3 := cell_below K9 hH0.2.2.2.1
   have k4 := cell_below K9 hH0.2.2.2.2.1
   have k5 := cell_below K9 hH0.2.2.2.2.2
   go_simp
   generalize htb : wq0.heap.size = tb at H9 ⊢
   generalize hw : wq0.alloc (.cells (tokV 0 0 0 ⟨#[]⟩) 92) = wq1 at H9 k0 k1 k2 k3 k4 k5 ⊢
   have H1 := Tre.hid H9
   have K0 := Tre.hid k0
   have K1 := Tre.hid k1
   have K2 := Tre.hid k2
   have K3 := Tre.hid k3
   have K4 := Tre.hid k4
   have K5 := Tre.hid k5
   clear H9 K9 hw htb k0 k1 k2 k3 k4 k5
   refine hK.out _ _ ?_ (fun hH1 => ?_)
   ·exact ⟨K0.out, K1.out, K2.out, K3.out, K4.out, K5.out⟩
   clear hK K hH0
   try simp only [Act.put, zqf, zqg, zqh]
   refine lOne 11 (by kernel_rfl) (LFall.op (by kernel_rfl) (fun K hK => ?_))
   have g0 := H1.out.cell 0 rfl 0 rfl
   have g1 := H1.out.cell 0 rfl 1 rfl
   have g2 := H1.out.cell 0 rfl 2 rfl
   have g3 := H1.out.cell 0 rfl 3 rfl
   have f0 := H1.out.free 0 rfl 0
   have f1 := H1.out.free 0 rfl 1
   have f2 := H1.out.free 0 rfl 2
   have f3 := H1.out.free 0 rfl 3
   have H9 := ((((H1.out.setCell 0 rfl 0 (.int .i64 t.kind)).setCell 0 rfl 1 (.int .i64 t.at_)).setCell 0 rfl 2 (.int .i64 t.n)).setCell 0 rfl 3 (.string ⟨t.s.toArray⟩))
   go_simp
   generalize hw : ((((wq1.setCell ⟨tb, 0, none⟩ (.int .i64 t.kind)).setCell ⟨tb, 1, none⟩ (.int .i64 t.at_)).setCell ⟨tb, 2, none⟩ (.int .i64 t.n)).setCell ⟨tb, 3, none⟩ (.string ⟨t.s.toArray⟩)) = wq2 at H9 ⊢
   have H2 : Hid (Mem w0 wq2 (cellsR tb 92 (tokV t.kind t.at_ t.n ⟨t.s.toArray⟩) :: parR b (some ⟨bt, ot, none⟩) l.length c i :: rs)) := H9
   clear hw H9 g0 g1 g2 g3 f0 f1 f2 f3
   refine hK.out _ _ ?_
   clear hK K hH1
   try simp only [Act.put, zqf, zqg, zqh]
   refine lDone (by kernel_rfl) ?_
   have y0 := H2.out.cell 0 rfl 0 rfl
   have y3 := H2.out.cell 0 rfl 3 rfl
   have q1 := H2.out.cell 1 rfl 1 rfl
   have q2 := H2.out.free 1 rfl 1
   go_wp2_with fail
   have H9 := (H2.out.setCell 1 rfl 1 (.int .i64 ((i + 1 : Nat) : Int))).drop1
   go_ret
   exact ⟨rfl, H9⟩
  ·have hrf : r = false := by rw [← htk]; simp only [Bool.and_eq_false_iff, decide_eq_false_iff_not]; right; intro e; exact hs (data_inj' (by simp [e]))
   subst hrf
   have es0 : ¬ ((⟨t.s.toArray⟩ : ByteArray).toList = s.toList) := by rw [ByteArray.toList_eq, ByteArray.toList_eq]; exact fun e => hs (data_inj' e.symm)
   have es0' : (t.s == s.toList) = false := by rw [beq_eq_false_iff_ne]; exact fun e => hs (data_inj' (by rw [e, ByteArray.toList_eq]))
   have es1 : (!(t.s == s.toList)) = true := by rw [es0']; rfl
   have es2 : (t.s = s.toList) = False := by rw [eq_iff_iff, iff_false]; exact fun e => hs (data_inj' (by rw [e, ByteArray.toList_eq]))
   clear es0
   clear htk hk hs
   go_enter Tryz.func60, Tryz.ntmps60
   go_wp2_with fail
   have cS : Cond (fun w' => w'.cell? ⟨b, 0, none⟩ = some (.slice (some ⟨bt, ot, none⟩) l.length c) ∧ w'.cell? ⟨b, 1, none⟩ = some (.int .i64 i) ∧ w'.cell? ⟨bt, ot + i * 4, none⟩ = some (.int .i64 t.kind) ∧ w'.cell? ⟨bt, ot + i * 4 + 1, none⟩ = some (.int .i64 t.at_) ∧ w'.cell? ⟨bt, ot + i * 4 + 2, none⟩ = some (.int .i64 t.n) ∧ w'.cell? ⟨bt, ot + i * 4 + 3, none⟩ = some (.string ⟨t.s.toArray⟩)) := ⟨⟩
   refine cS.keep [11] ?_ (fun hH0 => ?_)
   ·exact ⟨p0, p1, a0, a1, a2, a3⟩
   have H0 := Tre.hid HM.out.drew
   generalize hq : w.drew = wq0 at H0 hH0 ⊢
   clear hq
   refine lPq 0 (some 8) (v := ?_) rfl ?_ (keep_of hH0) ?_
   rotate_left
   ·intro w; go_simp <;> with_reducible rfl
   try simp only [Act.put, zqf, zqg, zqh]
   refine lPq 1 (some 9) (v := ?_) rfl ?_ (keep_of hH0) ?_
   rotate_left
   ·intro w; go_simp <;> with_reducible rfl
   try simp only [Act.put, zqf, zqg, zqh]
   refine lPq 2 (some 10) (v := ?_) rfl ?_ (keep_of hH0) ?_
   rotate_left
   ·intro w; go_simp <;> with_reducible rfl
   try simp only [Act.put, zqf, zqg, zqh]
   refine lPq 4 (some 12) (v := ?_) rfl ?_ (keep_of hH0) ?_
   rotate_left
   ·intro w; go_simp <;> with_reducible rfl
   try simp only [Act.put, zqf, zqg, zqh]
   refine lPq 5 (some 13) (v := ?_) rfl ?_ (keep_of hH0) ?_
   rotate_left
   ·intro w; go_simp <;> with_reducible rfl
   try simp only [Act.put, zqf, zqg, zqh]
   refine lPq 6 (some 14) (v := ?_) rfl ?_ (keep_of hH0) ?_
   rotate_left
   ·intro w; go_simp <;> with_reducible rfl
   try simp only [Act.put, zqf, zqg, zqh]
   refine lTq 3 (some 11) (v := ?_) rfl ?_ hH0 ?_
   rotate_left
   ·intro w hSw; (try dsimp only at hSw); go_simp <;> with_reducible rfl
   try simp only [Act.put, zqf, zqg, zqh]
   refine lTq 7 (some 15) (v := ?_) rfl ?_ hH0 ?_
   rotate_left
   ·intro w hSw; (try dsimp only at hSw); go_simp <;> with_reducible rfl
   try simp only [Act.put, zqf, zqg, zqh]
   refine lPq 8 (some 16) (v := ?_) rfl ?_ (keep_of hH0) ?_
   rotate_left
   ·intro w; go_simp <;> with_reducible rfl
   try simp only [Act.put, zqf, zqg, zqh]
   refine lTq 9 (some 17) (v := ?_) rfl ?_ hH0 ?_
   rotate_left
   ·intro w hSw; (try dsimp only at hSw); go_simp <;> with_reducible rfl
   try simp only [Act.put, zqf, zqg, zqh]
   refine lOne 10 (by kernel_rfl) (LStep.op (fun K hK => ?_))
   have H9 := H0.out.allocR (tokV 0 0 0 ⟨#[]⟩) 92
   have K9 := (Below.refl wq0.heap.size wq0).alloc (Nat.le_refl _) (.cells (tokV 0 0 0 ⟨#[]⟩) 92)
   have k0 := cell_below K9 hH0.1
   have k1 := cell_below K9 hH0.2.1
   have k2 := cell_below K9 hH0.2.2.1
   have k3 := cell_below K9 hH0.2.2.2.1
   have k4 := cell_below K9 hH0.2.2.2.2.1
   have k5 := cell_below K9 hH0.2.2.2.2.2
   go_simp
   generalize htb : wq0.heap.size = tb at H9 ⊢
   generalize hw : wq0.alloc (.cells (tokV 0 0 0 ⟨#[]⟩) 92) = wq1 at H9 k0 k1 k2 k3 k4 k5 ⊢
   have H1 := Tre.hid H9
   have K0 := Tre.hid k0
   have K1 := Tre.hid k1
   have K2 := Tre.hid k2
   have K3 := Tre.hid k3
   have K4 := Tre.hid k4
   have K5 := Tre.hid k5
   clear H9 K9 hw htb k0 k1 k2 k3 k4 k5
   refine hK.out _ _ ?_ (fun hH1 => ?_)
   ·exact ⟨K0.out, K1.out, K2.out, K3.out, K4.out, K5.out⟩
   clear hK K hH0
   try simp only [Act.put, zqf, zqg, zqh]
   refine lOne 11 (by kernel_rfl) (LFall.op (by kernel_rfl) (fun K hK => ?_))
   have g0 := H1.out.cell 0 rfl 0 rfl
   have g1 := H1.out.cell 0 rfl 1 rfl
   have g2 := H1.out.cell 0 rfl 2 rfl
   have g3 := H1.out.cell 0 rfl 3 rfl
   have f0 := H1.out.free 0 rfl 0
   have f1 := H1.out.free 0 rfl 1
   have f2 := H1.out.free 0 rfl 2
   have f3 := H1.out.free 0 rfl 3
   have H9 := ((((H1.out.setCell 0 rfl 0 (.int .i64 t.kind)).setCell 0 rfl 1 (.int .i64 t.at_)).setCell 0 rfl 2 (.int .i64 t.n)).setCell 0 rfl 3 (.string ⟨t.s.toArray⟩))
   go_simp
   generalize hw : ((((wq1.setCell ⟨tb, 0, none⟩ (.int .i64 t.kind)).setCell ⟨tb, 1, none⟩ (.int .i64 t.at_)).setCell ⟨tb, 2, none⟩ (.int .i64 t.n)).setCell ⟨tb, 3, none⟩ (.string ⟨t.s.toArray⟩)) = wq2 at H9 ⊢
   have H2 : Hid (Mem w0 wq2 (cellsR tb 92 (tokV t.kind t.at_ t.n ⟨t.s.toArray⟩) :: parR b (some ⟨bt, ot, none⟩) l.length c i :: rs)) := H9
   clear hw H9 g0 g1 g2 g3 f0 f1 f2 f3
   refine hK.out _ _ ?_
   clear hK K hH1
   try simp only [Act.put, zqf, zqg, zqh]
   refine lDone (by kernel_rfl) ?_
   have y0 := H2.out.cell 0 rfl 0 rfl
   have y3 := H2.out.cell 0 rfl 3 rfl
   have q1 := H2.out.cell 1 rfl 1 rfl
   have q2 := H2.out.free 1 rfl 1
   go_wp2_with fail
   go_ret
   exact ⟨rfl, H2.out.drop1⟩
 ·have hrf : r = false := by rw [← htk]; simp only [Bool.and_eq_false_iff, decide_eq_false_iff_not]; left; exact hk
  subst hrf
  have e1 : (((t.kind : Int)) == (kind : Int)) = false := by rw [beq_eq_false_iff_ne]; omega
  have e1' : (((t.kind : Int)) != (kind : Int)) = true := by rw [bne, e1]; rfl
  clear htk hk
  go_enter Tryz.func60, Tryz.ntmps60
  go_wp2_with fail
  have cS : Cond (fun w' => w'.cell? ⟨b, 0, none⟩ = some (.slice (some ⟨bt, ot, none⟩) l.length c) ∧ w'.cell? ⟨b, 1, none⟩ = some (.int .i64 i) ∧ w'.cell? ⟨bt, ot + i * 4, none⟩ = some (.int .i64 t.kind) ∧ w'.cell? ⟨bt, ot + i * 4 + 1, none⟩ = some (.int .i64 t.at_) ∧ w'.cell? ⟨bt, ot + i * 4 + 2, none⟩ = some (.int .i64 t.n) ∧ w'.cell? ⟨bt, ot + i * 4 + 3, none⟩ = some (.string ⟨t.s.toArray⟩)) := ⟨⟩
  refine cS.keep [11] ?_ (fun hH0 => ?_)
  ·exact ⟨p0, p1, a0, a1, a2, a3⟩
  have H0 := Tre.hid HM.out.drew
  generalize hq : w.drew = wq0 at H0 hH0 ⊢
  clear hq
  refine lPq 0 (some 8) (v := ?_) rfl ?_ (keep_of hH0) ?_
  rotate_left
  ·intro w; go_simp <;> with_reducible rfl
  try simp only [Act.put, zqf, zqg, zqh]
  refine lPq 1 (some 9) (v := ?_) rfl ?_ (keep_of hH0) ?_
  rotate_left
  ·intro w; go_simp <;> with_reducible rfl
  try simp only [Act.put, zqf, zqg, zqh]
  refine lPq 2 (some 10) (v := ?_) rfl ?_ (keep_of hH0) ?_
  rotate_left
  ·intro w; go_simp <;> with_reducible rfl
  try simp only [Act.put, zqf, zqg, zqh]
  refine lPq 4 (some 12) (v := ?_) rfl ?_ (keep_of hH0) ?_
  rotate_left
  ·intro w; go_simp <;> with_reducible rfl
  try simp only [Act.put, zqf, zqg, zqh]
  refine lPq 5 (some 13) (v := ?_) rfl ?_ (keep_of hH0) ?_
  rotate_left
  ·intro w; go_simp <;> with_reducible rfl
  try simp only [Act.put, zqf, zqg, zqh]
  refine lPq 6 (some 14) (v := ?_) rfl ?_ (keep_of hH0) ?_
  rotate_left
  ·intro w; go_simp <;> with_reducible rfl
  try simp only [Act.put, zqf, zqg, zqh]
  refine lTq 3 (some 11) (v := ?_) rfl ?_ hH0 ?_
  rotate_left
  ·intro w hSw; (try dsimp only at hSw); go_simp <;> with_reducible rfl
  try simp only [Act.put, zqf, zqg, zqh]
  refine lTq 7 (some 15) (v := ?_) rfl ?_ hH0 ?_
  rotate_left
  ·intro w hSw; (try dsimp only at hSw); go_simp <;> with_reducible rfl
  try simp only [Act.put, zqf, zqg, zqh]
  refine lPq 8 (some 16) (v := ?_) rfl ?_ (keep_of hH0) ?_
  rotate_left
  ·intro w; go_simp <;> with_reducible rfl
  try simp only [Act.put, zqf, zqg, zqh]
  refine lTq 9 (some 17) (v := ?_) rfl ?_ hH0 ?_
  rotate_left
  ·intro w hSw; (try dsimp only at hSw); go_simp <;> with_reducible rfl
  try simp only [Act.put, zqf, zqg, zqh]
  refine lOne 10 (by kernel_rfl) (LStep.op (fun K hK => ?_))
  have H9 := H0.out.allocR (tokV 0 0 0 ⟨#[]⟩) 92
  have K9 := (Below.refl wq0.heap.size wq0).alloc (Nat.le_refl _) (.cells (tokV 0 0 0 ⟨#[]⟩) 92)
  have k0 := cell_below K9 hH0.1
  have k1 := cell_below K9 hH0.2.1
  have k2 := cell_below K9 hH0.2.2.1
  have k3 := cell_below K9 hH0.2.2.2.1
  have k4 := cell_below K9 hH0.2.2.2.2.1
  have k5 := cell_below K9 hH0.2.2.2.2.2
  go_simp
  generalize htb : wq0.heap.size = tb at H9 ⊢
  generalize hw : wq0.alloc (.cells (tokV 0 0 0 ⟨#[]⟩) 92) = wq1 at H9 k0 k1 k2 k3 k4 k5 ⊢
  have H1 := Tre.hid H9
  have K0 := Tre.hid k0
  have K1 := Tre.hid k1
  have K2 := Tre.hid k2
  have K3 := Tre.hid k3
  have K4 := Tre.hid k4
  have K5 := Tre.hid k5
  clear H9 K9 hw htb k0 k1 k2 k3 k4 k5
  refine hK.out _ _ ?_ (fun hH1 => ?_)
  ·exact ⟨K0.out, K1.out, K2.out, K3.out, K4.out, K5.out⟩
  clear hK K hH0
  try simp only [Act.put, zqf, zqg, zqh]
  refine lOne 11 (by kernel_rfl) (LFall.op (by kernel_rfl) (fun K hK => ?_))
  have g0 := H1.out.cell 0 rfl 0 rfl
  have g1 := H1.out.cell 0 rfl 1 rfl
  have g2 := H1.out.cell 0 rfl 2 rfl
  have g3 := H1.out.cell 0 rfl 3 rfl
  have f0 := H1.out.free 0 rfl 0
  have f1 := H1.out.free 0 rfl 1
  have f2 := H1.out.free 0 rfl 2
  have f3 := H1.out.free 0 rfl 3
  have H9 := ((((H1.out.setCell 0 rfl 0 (.int .i64 t.kind)).setCell 0 rfl 1 (.int .i64 t.at_)).setCell 0 rfl 2 (.int .i64 t.n)).setCell 0 rfl 3 (.string ⟨t.s.toArray⟩))
  go_simp
  generalize hw : ((((wq1.setCell ⟨tb, 0, none⟩ (.int .i64 t.kind)).setCell ⟨tb, 1, none⟩ (.int .i64 t.at_)).setCell ⟨tb, 2, none⟩ (.int .i64 t.n)).setCell ⟨tb, 3, none⟩ (.string ⟨t.s.toArray⟩)) = wq2 at H9 ⊢
  have H2 : Hid (Mem w0 wq2 (cellsR tb 92 (tokV t.kind t.at_ t.n ⟨t.s.toArray⟩) :: parR b (some ⟨bt, ot, none⟩) l.length c i :: rs)) := H9
  clear hw H9 g0 g1 g2 g3 f0 f1 f2 f3
  refine hK.out _ _ ?_
  clear hK K hH1
  try simp only [Act.put, zqf, zqg, zqh]
  refine lDone (by kernel_rfl) ?_
  have y0 := H2.out.cell 0 rfl 0 rfl
  have y3 := H2.out.cell 0 rfl 3 rfl
  have q1 := H2.out.cell 1 rfl 1 rfl
  have q2 := H2.out.free 1 rfl 1
  go_wp2_with fail
  go_ret
  exact ⟨rfl, H2.out.drop1⟩
set_option maxRecDepth 100000 in
set_option maxHeartbeats 8000000 in
theorem word (w0 : World) (rs : List Res) (b : Nat) (ad : Option Addr) (c : Nat) (l : List Tok) (i kind : Nat) (w : World) (hM : Mem w0 w (parR b ad l.length c i :: rs)) (hl : ToksAt w0 ad l) (hi : i < l.length) (hll : l.length ≤ 4194304) (x : List UInt8) (hr : wd l i kind = some x) :
  Calls Tryz.prog 61 #[.pointer (some ⟨b, 0, none⟩), .int .i64 kind] w fun e w' => e = .returned (.string ⟨x.toArray⟩) ∧ Mem w0 w' (parR b ad l.length c (i + 1) :: rs) := by
 obtain ⟨t, ht⟩ : ∃ t, l[i]? = some t := ⟨_, List.getElem?_eq_getElem hi⟩
 have htk : (if t.kind = kind then some t.s else none) = some x := by rw [← hr]; unfold wd; rw [ht]
 obtain ⟨bt, ot, rfl, a0, a1, a2, a3⟩ := (hl.below hM.below).tok ht
 obtain ⟨p0, p1⟩ := hM.two 0 rfl
 have HM := Tre.hid hM
 clear hM hl hr ht
 by_cases hk : t.kind = kind
 ·rw [if_pos hk] at htk
  cases htk
  have e1 : (((t.kind : Int)) == (kind : Int)) = true := by rw [hk]; exact beq_self_eq_true _
  have e1' : (((t.kind : Int)) != (kind : Int)) = false := by rw [bne, e1]; rfl
  have ewr : IntKind.i64.wrap ((i : Int) + 1) = ((i + 1 : Nat) : Int) := IntWalk.i64_in _ (by omega)
  clear hk
  go_enter Tryz.func61, Tryz.ntmps61
  go_wp2_with fail
  have cS : Cond (fun w' => w'.cell? ⟨b, 0, none⟩ = some (.slice (some ⟨bt, ot, none⟩) l.length c) ∧ w'.cell? ⟨b, 1, none⟩ = some (.int .i64 i) ∧ w'.cell? ⟨bt, ot + i * 4, none⟩ = some (.int .i64 t.kind) ∧ w'.cell? ⟨bt, ot + i * 4 + 1, none⟩ = some (.int .i64 t.at_) ∧ w'.cell? ⟨bt, ot + i * 4 + 2, none⟩ = some (.int .i64 t.n) ∧ w'.cell? ⟨bt, ot + i * 4 + 3, none⟩ = some (.string ⟨t.s.toArray⟩)) := ⟨⟩
  refine cS.keep [11] ?_ (fun hH0 => ?_)
  ·exact ⟨p0, p1, a0, a1, a2, a3⟩
  have H0 := Tre.hid HM.out.drew
  generalize hq : w.drew = wq0 at H0 hH0 ⊢
  clear hq
  refine lPq 0 (some 6) (v := ?_) rfl ?_ (keep_of hH0) ?_
  rotate_left
  ·intro w; go_simp <;> with_reducible rfl
  try simp only [Act.put, zqf, zqg, zqh]
  refine lPq 1 (some 7) (v := ?_) rfl ?_ (keep_of hH0) ?_
  rotate_left
  ·intro w; go_simp <;> with_reducible rfl
  try simp only [Act.put, zqf, zqg, zqh]
  refine lPq 2 (some 8) (v := ?_) rfl ?_ (keep_of hH0) ?_
  rotate_left
  ·intro w; go_simp <;> with_reducible rfl
  try simp only [Act.put, zqf, zqg, zqh]
  refine lPq 4 (some 10) (v := ?_) rfl ?_ (keep_of hH0) ?_
  rotate_left
  ·intro w; go_simp <;> with_reducible rfl
  try simp only [Act.put, zqf, zqg, zqh]
  refine lPq 5 (some 11) (v := ?_) rfl ?_ (keep_of hH0) ?_
  rotate_left
  ·intro w; go_simp <;> with_reducible rfl
  try simp only [Act.put, zqf, zqg, zqh]
  refine lPq 6 (some 12) (v := ?_) rfl ?_ (keep_of hH0) ?_
  rotate_left
  ·intro w; go_simp <;> with_reducible rfl
  try simp only [Act.put, zqf, zqg, zqh]
  refine lTq 3 (some 9) (v := ?_) rfl ?_ hH0 ?_
  rotate_left
  ·intro w hSw; (try dsimp only at hSw); go_simp <;> with_reducible rfl
  try simp only [Act.put, zqf, zqg, zqh]
  refine lTq 7 (some 13) (v := ?_) rfl ?_ hH0 ?_
  rotate_left
  ·intro w hSw; (try dsimp only at hSw); go_simp <;> with_reducible rfl
  try simp only [Act.put, zqf, zqg, zqh]
  refine lPq 8 (some 14) (v := ?_) rfl ?_ (keep_of hH0) ?_
  rotate_left
  ·intro w; go_simp <;> with_reducible rfl
  try simp only [Act.put, zqf, zqg, zqh]
  refine lTq 9 (some 15) (v := ?_) rfl ?_ hH0 ?_
  rotate_left
  ·intro w hSw; (try dsimp only at hSw); go_simp <;> with_reducible rfl
  try simp only [Act.put, zqf, zqg, zqh]
  refine lOne 10 (by kernel_rfl) (LStep.op (fun K hK => ?_))
  have H9 := H0.out.allocR (tokV 0 0 0 ⟨#[]⟩) 92
  have K9 := (Below.refl wq0.heap.size wq0).alloc (Nat.le_refl _) (.cells (tokV 0 0 0 ⟨#[]⟩) 92)
  have k0 := cell_below K9 hH0.1
  have k1 := cell_below K9 hH0.2.1
  have k2 := cell_below K9 hH0.2.2.1
  have k3 := cell_below K9 hH0.2.2.2.1
  have k4 := cell_below K9 hH0.2.2.2.2.1
  have k5 := cell_below K9 hH0.2.2.2.2.2
  go_simp
  generalize htb : wq0.heap.size = tb at H9 ⊢
  generalize hw : wq0.alloc (.cells (tokV 0 0 0 ⟨#[]⟩) 92) = wq1 at H9 k0 k1 k2 k3 k4 k5 ⊢
  have H1 := Tre.hid H9
  have K0 := Tre.hid k0
  have K1 := Tre.hid k1
  have K2 := Tre.hid k2
  have K3 := Tre.hid k3
  have K4 := Tre.hid k4
  have K5 := Tre.hid k5
  clear H9 K9 hw htb k0 k1 k2 k3 k4 k5
  refine hK.out _ _ ?_ (fun hH1 => ?_)
  ·exact ⟨K0.out, K1.out, K2.out, K3.out, K4.out, K5.out⟩
  clear hK K hH0
  try simp only [Act.put, zqf, zqg, zqh]
  refine lOne 11 (by kernel_rfl) (LFall.op (by kernel_rfl) (fun K hK => ?_))
  have g0 := H1.out.cell 0 rfl 0 rfl
  have g1 := H1.out.cell 0 rfl 1 rfl
  have g2 := H1.out.cell 0 rfl 2 rfl
  have g3 := H1.out.cell 0 rfl 3 rfl
  have f0 := H1.out.free 0 rfl 0
  have f1 := H1.out.free 0 rfl 1
  have f2 := H1.out.free 0 rfl 2
  have f3 := H1.out.free 0 rfl 3
  have H9 := ((((H1.out.setCell 0 rfl 0 (.int .i64 t.kind)).setCell 0 rfl 1 (.int .i64 t.at_)).setCell 0 rfl 2 (.int .i64 t.n)).setCell 0 rfl 3 (.string ⟨t.s.toArray⟩))
  go_simp
  generalize hw : ((((wq1.setCell ⟨tb, 0, none⟩ (.int .i64 t.kind)).setCell ⟨tb, 1, none⟩ (.int .i64 t.at_)).setCell ⟨tb, 2, none⟩ (.int .i64 t.n)).setCell ⟨tb, 3, none⟩ (.string ⟨t.s.toArray⟩)) = wq2 at H9 ⊢
  have H2 : Hid (Mem w0 wq2 (cellsR tb 92 (tokV t.kind t.at_ t.n ⟨t.s.toArray⟩) :: parR b (some ⟨bt, ot, none⟩) l.length c i :: rs)) := H9
  clear hw H9 g0 g1 g2 g3 f0 f1 f2 f3
  refine hK.out _ _ ?_
  clear hK K hH1
  try simp only [Act.put, zqf, zqg, zqh]
  refine lDone (by kernel_rfl) ?_
  have y0 := H2.out.cell 0 rfl 0 rfl
  have y3 := H2.out.cell 0 rfl 3 rfl
  have q1 := H2.out.cell 1 rfl 1 rfl
  have q2 := H2.out.free 1 rfl 1
  go_wp2_with fail
  have H9 := (H2.out.setCell 1 rfl 1 (.int .i64 ((i + 1 : Nat) : Int))).drop1
  go_ret
  exact ⟨rfl, H9⟩
 ·rw [if_neg hk] at htk; cases htk
theorem need (w0 : World) (rs : List Res) (b : Nat) (ad : Option Addr) (c : Nat) (l : List Tok) (i : Nat) (s : ByteArray) (w : World) (hM : Mem w0 w (parR b ad l.length c i :: rs)) (hl : ToksAt w0 ad l) (hi : i < l.length) (hll : l.length ≤ 4194304) (hr : tk l i 6 s.data.toList = true) :
  Calls Tryz.prog 80 #[.pointer (some ⟨b, 0, none⟩), .string s] w fun e w' => e = .returned (.tuple #[]) ∧ Mem w0 w' (parR b ad l.length c (i + 1) :: rs) := by
 have HM := Tre.hid hM
 have HL := Tre.hid hl
 clear hM hl
 go_enter Tryz.func80, Tryz.ntmps80
 go_wp2_with fail
 refine (takes w0 rs b ad c l i 6 s _ HM.out HL.out hi hll true hr).mono ?_
 rintro e w' ⟨rfl, M⟩
 have HM2 := Tre.hid M
 clear M
 go_wp2_with fail
 go_end0
 exact ⟨rfl, HM2.out⟩
end Go.Proofs.YtbafalfmgibnfaaGreatDoor.typ
