/- typ: the parser's object, where it comes to a type; level at every fuel. -/
import Derived.Test.YtbafalfmgibnfaaGreatDoorB14
import Derived.Test.YtbafalfmgibnfaaGreatDoorB17
set_option linter.unusedVariables false
namespace Go.Tre
theorem pObjE (l : List Tok) (k : Nat) (labels : List (List UInt8)) (args : List Ty) (i : Nat) : pObj l (k + 1) labels args i = if tk l i 6 [46, 46] then (if tk l (i + 1) 6 [62] then some (.mk 3 [] args labels true, i + 2) else none)
  else (wd l i 1).bind fun s => if tk l (i + 1) 6 [58] then (pLev l k 1 (i + 2)).bind fun r =>
   if labels.contains s = true then none
   else if tk l r.2 6 [62] then some (.mk 3 [] (insAt args (posL labels s) r.1) (insAt labels (posL labels s) s) false, r.2 + 1)
   else if tk l r.2 6 [59] then pObj l k (insAt labels (posL labels s) s) (insAt args (posL labels s) r.1) (r.2 + 1)
   else none
  else none := by rw [pObj]
open Go.RowKit in
theorem levPost_of {w0 w : World} {b : Nat} {ad : Option Addr} {c : Nat} {l : List Tok} {rs : List Res} {O : Nat → Prop} {aa al : Option Addr} {ca cl j : Nat} {ts : List Ty} {labels : List (List UInt8)} {o : Bool} (n : Nat) (ht : ts.length = n) (hn : labels.length = n) (hj : j < l.length)
  (M : Mem w0 w (tyR O (.mk 3 [] ts labels o) (.agg #[.int .i64 3, .string ⟨#[]⟩, .slice aa n ca, .slice al n cl, .bool o]) :: parR b ad l.length c j :: rs)) :
  LevPost w0 b ad c l rs (.mk 3 [] ts labels o) j (.returned (.agg #[.int .i64 3, .string ⟨#[]⟩, .slice aa n ca, .slice al n cl, .bool o])) w := by
 subst hn
 refine ⟨O, aa, ca, al, cl, ?_, hj, ?_⟩
 ·show _ = Ending.returned (.agg #[.int .i64 3, .string ⟨#[]⟩, .slice aa ts.length ca, .slice al labels.length cl, .bool o])
  rw [ht]
 ·show Mem w0 w (tyR O _ (.agg #[.int .i64 3, .string ⟨#[]⟩, .slice aa ts.length ca, .slice al labels.length cl, .bool o]) :: _)
  rw [ht]
  exact M
end Go.Tre
namespace Go.Proofs.YtbafalfmgibnfaaGreatDoor.typ
open Go.RowKit Go.Tre
set_option maxRecDepth 100000 in
set_option maxHeartbeats 16000000 in
theorem object_any (w0 : World) (b : Nat) (ad : Option Addr) (c : Nat) (l : List Tok) (hl : ToksAt w0 ad l) (he : TokEnds l) (hll : l.length ≤ 4194304) (k : Nat) (ih : ∀ m, m < k → LevAt w0 b ad c l m) : ObjAt w0 b ad c l k := by
 intro rs i j t w hi hp hM
 have M0 := (hM.allocR #[.int .i64 0, .string ⟨#[]⟩, .slice none 0 0, .slice none 0 0, .bool false] 28).allocR #[.int .i64 3, .string ⟨#[]⟩, .slice none 0 0, .slice none 0 0, .bool false] 28
 rw [World.size_alloc] at M0
 have HM := Tre.hid M0
 have HL := Tre.hid hl
 have HE := Tre.hid he
 have IH := Tre.hid ih
 have HP := Tre.hid hp
 have hrt : Hid (w.heap.size ≠ w.heap.size + 1) := by show _ ≠ _; omega
 clear hM hl he ih hp M0
 go_enter Tryz.func81, Tryz.ntmps81
 go_wp2_with fail
 by_cases ht : tk l i 6 [62] = true
 ·have hp := HP.out
  rw [if_pos ht] at hp
  simp only [zqe, Prod.mk.injEq] at hp
  obtain ⟨rfl, rfl⟩ := hp
  have HT := Tre.hid ht
  have HJ := Tre.hid (tk_lt HE.out (by omega) ht)
  clear ht HP
  refine (takes w0 _ b _ c l i 6 ⟨#[62]⟩ _ (HM.out.front 2 rfl) HL.out hi hll true HT.out).mono ?_
  rintro e w1 ⟨rfl, M1⟩
  rw [if_pos rfl] at M1
  generalize htb : w.heap.size + 1 = tb at *
  generalize hrb : w.heap.size = rb at *
  have HM1 := Tre.hid M1
  clear M1 htb hrb
  have v0 : w1.cell? ⟨tb, 0, none⟩ = some (.int .i64 3) := HM1.out.cell 1 rfl 0 rfl
  have v1 : w1.cell? ⟨tb, 1, none⟩ = some (.string ⟨#[]⟩) := HM1.out.cell 1 rfl 1 rfl
  have v2 : w1.cell? ⟨tb, 2, none⟩ = some (.slice none 0 0) := HM1.out.cell 1 rfl 2 rfl
  have v3 : w1.cell? ⟨tb, 3, none⟩ = some (.slice none 0 0) := HM1.out.cell 1 rfl 3 rfl
  have v4 : w1.cell? ⟨tb, 4, none⟩ = some (.bool false) := HM1.out.cell 1 rfl 4 rfl
  have MT : Mem w0 w1 (cellsR rb 28 #[.int .i64 0, .string ⟨#[]⟩, .slice none 0 0, .slice none 0 0, .bool false] :: _) := HM1.out.front 2 rfl
  have g0 : w1.cell? ⟨rb, 0, none⟩ = some (.int .i64 0) := MT.cell 0 rfl 0 rfl
  have g1 : w1.cell? ⟨rb, 1, none⟩ = some (.string ⟨#[]⟩) := MT.cell 0 rfl 1 rfl
  have g2 : w1.cell? ⟨rb, 2, none⟩ = some (.slice none 0 0) := MT.cell 0 rfl 2 rfl
  have g3 : w1.cell? ⟨rb, 3, none⟩ = some (.slice none 0 0) := MT.cell 0 rfl 3 rfl
  have g4 : w1.cell? ⟨rb, 4, none⟩ = some (.bool false) := MT.cell 0 rfl 4 rfl
  have f0 := MT.free 0 rfl 0
  have f1 := MT.free 0 rfl 1
  have f2 := MT.free 0 rfl 2
  have f3 := MT.free 0 rfl 3
  have f4 := MT.free 0 rfl 4
  have M6 : Mem w0 (((((w1.setCell ⟨rb, 0, none⟩ (.int .i64 3)).setCell ⟨rb, 1, none⟩ (.string ⟨#[]⟩)).setCell ⟨rb, 2, none⟩ (.slice none 0 0)).setCell ⟨rb, 3, none⟩ (.slice none 0 0)).setCell ⟨rb, 4, none⟩ (.bool false)) (cellsR rb 28 #[.int .i64 3, .string ⟨#[]⟩, .slice none 0 0, .slice none 0 0, .bool false] :: _) := (((((MT.setCell 0 rfl 0 (.int .i64 3)).setCell 0 rfl 1 (.string ⟨#[]⟩)).setCell 0 rfl 2 (.slice none 0 0)).setCell 0 rfl 3 (.slice none 0 0)).setCell 0 rfl 4 (.bool false))
  have HM6 := Tre.hid M6
  clear M6 MT
  go_wp2_with fail
  have z0 : (((((w1.setCell ⟨rb, 0, none⟩ (.int .i64 3)).setCell ⟨rb, 1, none⟩ (.string ⟨#[]⟩)).setCell ⟨rb, 2, none⟩ (.slice none 0 0)).setCell ⟨rb, 3, none⟩ (.slice none 0 0)).setCell ⟨rb, 4, none⟩ (.bool false)).cell? ⟨rb, 0, none⟩ = some (.int .i64 3) := HM6.out.cell 0 rfl 0 rfl
  have z1 : (((((w1.setCell ⟨rb, 0, none⟩ (.int .i64 3)).setCell ⟨rb, 1, none⟩ (.string ⟨#[]⟩)).setCell ⟨rb, 2, none⟩ (.slice none 0 0)).setCell ⟨rb, 3, none⟩ (.slice none 0 0)).setCell ⟨rb, 4, none⟩ (.bool false)).cell? ⟨rb, 1, none⟩ = some (.string ⟨#[]⟩) := HM6.out.cell 0 rfl 1 rfl
  have z2 : (((((w1.setCell ⟨rb, 0, none⟩ (.int .i64 3)).setCell ⟨rb, 1, none⟩ (.string ⟨#[]⟩)).setCell ⟨rb, 2, none⟩ (.slice none 0 0)).setCell ⟨rb, 3, none⟩ (.slice none 0 0)).setCell ⟨rb, 4, none⟩ (.bool false)).cell? ⟨rb, 2, none⟩ = some (.slice none 0 0) := HM6.out.cell 0 rfl 2 rfl
  have z3 : (((((w1.setCell ⟨rb, 0, none⟩ (.int .i64 3)).setCell ⟨rb, 1, none⟩ (.string ⟨#[]⟩)).setCell ⟨rb, 2, none⟩ (.slice none 0 0)).setCell ⟨rb, 3, none⟩ (.slice none 0 0)).setCell ⟨rb, 4, none⟩ (.bool false)).cell? ⟨rb, 3, none⟩ = some (.slice none 0 0) := HM6.out.cell 0 rfl 3 rfl
  have z4 : (((((w1.setCell ⟨rb, 0, none⟩ (.int .i64 3)).setCell ⟨rb, 1, none⟩ (.string ⟨#[]⟩)).setCell ⟨rb, 2, none⟩ (.slice none 0 0)).setCell ⟨rb, 3, none⟩ (.slice none 0 0)).setCell ⟨rb, 4, none⟩ (.bool false)).cell? ⟨rb, 4, none⟩ = some (.bool false) := HM6.out.cell 0 rfl 4 rfl
  refine bodyPost_ret (v := .agg #[.int .i64 3, .string ⟨#[]⟩, .slice none 0 0, .slice none 0 0, .bool false]) (by simp [results, Tryz.results81, go_sem, z0, z1, z2, z3, z4]) rfl ?_
  have HR := HM6.out.drop1
  exact ⟨_, _, _, _, _, rfl, HJ.out, Mem.tyMake (kids := []) (labels := []) 3 [] false (((HR.del 1).addNil 9 1).addNil 28 5) rfl rfl rfl⟩
 ·have hp := HP.out
  rw [if_neg ht] at hp
  have HT : Hid (tk l i 6 [62] = false) := by show _ = _; simpa using ht
  have HP2 := Tre.hid hp
  clear ht HP hp
  refine (takes w0 _ b _ c l i 6 ⟨#[62]⟩ _ (HM.out.front 2 rfl) HL.out hi hll false HT.out).mono ?_
  rintro e w1 ⟨rfl, M1⟩
  rw [if_neg (by simp)] at M1
  generalize htb : w.heap.size + 1 = tb at *
  generalize hrb : w.heap.size = rb at *
  have M2 := (((((M1.front 2 rfl).front 2 rfl).apartNil).addNil 9 1).addNil 28 5)
  have HM1 := Tre.hid M2
  clear M1 M2 htb hrb HM
  go_wp2_with fail
  go_loopg [14] k (fun gk v14 wr => ∃ (u14 : Value) (kids : List Kid) (labels : List (List UInt8)) (i1 : Nat) (aa : Option Addr) (ca : Nat) (al : Option Addr) (cl : Nat), v14 = u14 ∧ Hid (pObj l gk labels (kids.map Kid.t) i1 = some (t, j) ∧ gk ≤ k) ∧ Hid (i1 < l.length) ∧ Hid (kids.length = labels.length ∧ labels.length ≤ i1) ∧ Hid (RisL labels) ∧ Hid (Mem w0 wr (rowR 28 5 (.slice aa labels.length ca) labels.length (kidCells kids) :: rowR 9 1 (.slice al labels.length cl) labels.length (labels.map fun x => .string ⟨x.toArray⟩) :: apartR kids :: cellsR tb 28 #[.int .i64 3, .string ⟨#[]⟩, .slice aa labels.length ca, .slice al labels.length cl, .bool false] :: cellsR rb 28 #[.int .i64 0, .string ⟨#[]⟩, .slice none 0 0, .slice none 0 0, .bool false] :: parR b ad l.length c i1 :: rs)))
  case atStart => exact ⟨_, [], [], i, none, 0, none, 0, rfl, ⟨HP2.out, Nat.le_refl _⟩, hi, ⟨rfl, Nat.zero_le _⟩, List.Pairwise.nil, HM1.out⟩
  case round =>
   clear HM1 HP2 hi HT
   obtain ⟨u14, kids, labels, i1, aa, ca, al, cl, rfl, HP, HI1, HKL, HRI, HM⟩ := hrel
   have hln : Hid (labels.length ≤ 4194304) := by have h1 := HKL.out.2; have h2 := HI1.out; show _ ≤ _; omega
   obtain ⟨m, rfl⟩ : ∃ m, gk = m + 1 := by
    cases gk with
    | zero => have h := HP.out.1; unfold pObj at h; cases h
    | succ m => exact ⟨m, rfl⟩
   have hmk : Hid (m < k) := by have := HP.out.2; show _ < _; omega
   have hpm := HP.out.1
   rw [pObjE] at hpm
   by_cases hk : tk l i1 6 [46, 46] = true
   ·rw [if_pos hk] at hpm
    have hgt : tk l (i1 + 1) 6 [62] = true := by
     cases hb : tk l (i1 + 1) 6 [62]
     ·rw [hb] at hpm; simp at hpm
     ·rfl
    rw [hgt, if_pos rfl] at hpm
    simp only [zqe, Prod.mk.injEq] at hpm
    obtain ⟨rfl, rfl⟩ := hpm
    have HK := Tre.hid hk
    have HG := Tre.hid hgt
    have HI2 := Tre.hid (tk_lt HE.out (by omega) hk)
    have HJ := Tre.hid (tk_lt HE.out (by omega) hgt)
    clear hk hgt HP
    go_wp2_with fail
    refine (takes w0 _ b ad c l i1 6 ⟨#[46, 46]⟩ _ (HM.out.front 5 rfl) HL.out HI1.out hll true HK.out).mono ?_
    rintro e w2 ⟨rfl, M2⟩
    rw [if_pos rfl] at M2
    have g4 : w2.cell? ⟨tb, 4, none⟩ = some (.bool false) := M2.cell 4 rfl 4 rfl
    have f4 := M2.free 4 rfl 4
    have M3 := M2.setCell 4 rfl 4 (.bool true)
    have HM3 := Tre.hid M3
    clear M2 M3 HM
    go_wp2_with fail
    refine (need w0 _ b ad c l (i1 + 1) ⟨#[62]⟩ _ HM3.out HL.out HI2.out hll HG.out).mono ?_
    rintro e w4 ⟨rfl, M4⟩
    have HM4 := Tre.hid M4
    clear M4 HM3 g4 f4
    have v0 : w4.cell? ⟨tb, 0, none⟩ = some (.int .i64 3) := HM4.out.cell 4 rfl 0 rfl
    have v1 : w4.cell? ⟨tb, 1, none⟩ = some (.string ⟨#[]⟩) := HM4.out.cell 4 rfl 1 rfl
    have v2 : w4.cell? ⟨tb, 2, none⟩ = some (.slice aa labels.length ca) := HM4.out.cell 4 rfl 2 rfl
    have v3 : w4.cell? ⟨tb, 3, none⟩ = some (.slice al labels.length cl) := HM4.out.cell 4 rfl 3 rfl
    have v4 : w4.cell? ⟨tb, 4, none⟩ = some (.bool true) := HM4.out.cell 4 rfl 4 rfl
    have MT : Mem w0 w4 (cellsR rb 28 #[.int .i64 0, .string ⟨#[]⟩, .slice none 0 0, .slice none 0 0, .bool false] :: _) := HM4.out.front 5 rfl
    have g0 : w4.cell? ⟨rb, 0, none⟩ = some (.int .i64 0) := MT.cell 0 rfl 0 rfl
    have g1 : w4.cell? ⟨rb, 1, none⟩ = some (.string ⟨#[]⟩) := MT.cell 0 rfl 1 rfl
    have g2 : w4.cell? ⟨rb, 2, none⟩ = some (.slice none 0 0) := MT.cell 0 rfl 2 rfl
    have g3 : w4.cell? ⟨rb, 3, none⟩ = some (.slice none 0 0) := MT.cell 0 rfl 3 rfl
    have g4 : w4.cell? ⟨rb, 4, none⟩ = some (.bool false) := MT.cell 0 rfl 4 rfl
    have f0 := MT.free 0 rfl 0
    have f1 := MT.free 0 rfl 1
    have f2 := MT.free 0 rfl 2
    have f3 := MT.free 0 rfl 3
    have f4 := MT.free 0 rfl 4
    have M6 : Mem w0 (((((w4.setCell ⟨rb, 0, none⟩ (.int .i64 3)).setCell ⟨rb, 1, none⟩ (.string ⟨#[]⟩)).setCell ⟨rb, 2, none⟩ (.slice aa labels.length ca)).setCell ⟨rb, 3, none⟩ (.slice al labels.length cl)).setCell ⟨rb, 4, none⟩ (.bool true)) (cellsR rb 28 #[.int .i64 3, .string ⟨#[]⟩, .slice aa labels.length ca, .slice al labels.length cl, .bool true] :: _) := (((((MT.setCell 0 rfl 0 (.int .i64 3)).setCell 0 rfl 1 (.string ⟨#[]⟩)).setCell 0 rfl 2 (.slice aa labels.length ca)).setCell 0 rfl 3 (.slice al labels.length cl)).setCell 0 rfl 4 (.bool true))
    have HM6 := Tre.hid M6
    clear M6 MT
    go_wp2_with fail
    have z0 : (((((w4.setCell ⟨rb, 0, none⟩ (.int .i64 3)).setCell ⟨rb, 1, none⟩ (.string ⟨#[]⟩)).setCell ⟨rb, 2, none⟩ (.slice aa labels.length ca)).setCell ⟨rb, 3, none⟩ (.slice al labels.length cl)).setCell ⟨rb, 4, none⟩ (.bool true)).cell? ⟨rb, 0, none⟩ = some (.int .i64 3) := HM6.out.cell 0 rfl 0 rfl
    have z1 : (((((w4.setCell ⟨rb, 0, none⟩ (.int .i64 3)).setCell ⟨rb, 1, none⟩ (.string ⟨#[]⟩)).setCell ⟨rb, 2, none⟩ (.slice aa labels.length ca)).setCell ⟨rb, 3, none⟩ (.slice al labels.length cl)).setCell ⟨rb, 4, none⟩ (.bool true)).cell? ⟨rb, 1, none⟩ = some (.string ⟨#[]⟩) := HM6.out.cell 0 rfl 1 rfl
    have z2 : (((((w4.setCell ⟨rb, 0, none⟩ (.int .i64 3)).setCell ⟨rb, 1, none⟩ (.string ⟨#[]⟩)).setCell ⟨rb, 2, none⟩ (.slice aa labels.length ca)).setCell ⟨rb, 3, none⟩ (.slice al labels.length cl)).setCell ⟨rb, 4, none⟩ (.bool true)).cell? ⟨rb, 2, none⟩ = some (.slice aa labels.length ca) := HM6.out.cell 0 rfl 2 rfl
    have z3 : (((((w4.setCell ⟨rb, 0, none⟩ (.int .i64 3)).setCell ⟨rb, 1, none⟩ (.string ⟨#[]⟩)).setCell ⟨rb, 2, none⟩ (.slice aa labels.length ca)).setCell ⟨rb, 3, none⟩ (.slice al labels.length cl)).setCell ⟨rb, 4, none⟩ (.bool true)).cell? ⟨rb, 3, none⟩ = some (.slice al labels.length cl) := HM6.out.cell 0 rfl 3 rfl
    have z4 : (((((w4.setCell ⟨rb, 0, none⟩ (.int .i64 3)).setCell ⟨rb, 1, none⟩ (.string ⟨#[]⟩)).setCell ⟨rb, 2, none⟩ (.slice aa labels.length ca)).setCell ⟨rb, 3, none⟩ (.slice al labels.length cl)).setCell ⟨rb, 4, none⟩ (.bool true)).cell? ⟨rb, 4, none⟩ = some (.bool true) := HM6.out.cell 0 rfl 4 rfl
    refine bodyPost_ret (v := .agg #[.int .i64 3, .string ⟨#[]⟩, .slice aa labels.length ca, .slice al labels.length cl, .bool true]) (by simp [results, Tryz.results81, go_sem, z0, z1, z2, z3, z4]) rfl ?_
    have HR := HM6.out.drop1
    have MZ := (((HR.del 4).front 3 rfl).front 3 rfl).front 3 rfl
    have MW := Mem.tyMake (labels := labels) 3 [] true MZ.apartRows HKL.out.1.symm rfl rfl
    exact levPost_of labels.length (by rw [List.length_map]; exact HKL.out.1) rfl HJ.out MW
   ·rw [if_neg hk] at hpm
    obtain ⟨s, hs, hpm⟩ := Option.bind_eq_some_iff.1 hpm
    have hco : tk l (i1 + 1) 6 [58] = true := by
     cases hb : tk l (i1 + 1) 6 [58]
     ·rw [hb] at hpm; simp at hpm
     ·rfl
    rw [hco, if_pos rfl] at hpm
    obtain ⟨⟨tx, i2⟩, hx, hpm⟩ := Option.bind_eq_some_iff.1 hpm
    simp only at hpm
    have hall : labels.contains s = false := by
     cases hb : labels.contains s
     ·rfl
     ·rw [hb] at hpm; simp at hpm
    rw [if_neg (by rw [hall]; simp)] at hpm
    have HP3 := Tre.hid hpm
    have HK : Hid (tk l i1 6 [46, 46] = false) := by show _ = _; simpa using hk
    have HS := Tre.hid hs
    have HC := Tre.hid hco
    have HX := Tre.hid hx
    have HA := Tre.hid hall
    have HI2 := Tre.hid (wd_lt HE.out (by omega) hs)
    have HI3 := Tre.hid (tk_lt HE.out (by omega) hco)
    clear hk hs hco hx hall hpm HP
    go_wp2_with fail
    refine (takes w0 _ b ad c l i1 6 ⟨#[46, 46]⟩ _ (HM.out.front 5 rfl) HL.out HI1.out hll false HK.out).mono ?_
    rintro e w2 ⟨rfl, M2⟩
    rw [if_neg (by simp)] at M2
    have q1 : w2.cell? ⟨b, 1, none⟩ = some (.int .i64 i1) := M2.cell 0 rfl 1 rfl
    have HM2 := Tre.hid M2
    clear M2 HM
    go_wp2_with fail
    refine (word w0 _ b ad c l i1 1 _ HM2.out HL.out HI1.out hll s HS.out).mono ?_
    rintro e w3 ⟨rfl, M3⟩
    have HM3 := Tre.hid M3
    clear M3 HM2 q1
    go_wp2_with fail
    refine (need w0 _ b ad c l (i1 + 1) ⟨#[58]⟩ _ HM3.out HL.out HI2.out hll HC.out).mono ?_
    rintro e w4 ⟨rfl, M4⟩
    have HM4 := Tre.hid M4
    clear M4 HM3
    go_wp2_with fail
    refine (IH.out m hmk.out _ 1 (i1 + 2) i2 tx _ HI3.out (by omega) HX.out HM4.out).mono ?_
    rintro e w5 ⟨O, ax, cx, bx, dx, rfl, hj1, M5⟩
    have HJ2 := Tre.hid hj1
    have HGO : Hid (i1 + 2 ≤ i2) := pLev_le HX.out
    have M6 := M5.allocR #[.int .i64 (tx.kind : Int), .string ⟨tx.s.toArray⟩, .slice ax tx.args.length cx, .slice bx tx.labels.length dx, .bool tx.opn] 28
    generalize hxb : w5.heap.size = xb at M6
    have t3 : (w5.alloc (.cells #[.int .i64 (tx.kind : Int), .string ⟨tx.s.toArray⟩, .slice ax tx.args.length cx, .slice bx tx.labels.length dx, .bool tx.opn] 28)).cell? ⟨tb, 3, none⟩ = some (.slice al labels.length cl) := M6.cell 6 rfl 3 rfl
    have hbe := binAny w0 _ _ al cl labels s (M6.front 4 rfl) hln.out HRI.out
    rw [HA.out] at hbe
    have HBE := Tre.hid hbe
    have HM6 := Tre.hid M6
    clear M5 M6 hj1 HM4 hbe
    go_wp2_with fail
    refine HBE.out.mono ?_
    rintro e w7 ⟨rfl, b7⟩
    have HM7 := Tre.hid (HM6.out.quiet b7)
    clear t3 b7 HBE HM6
    subst hxb
    generalize w5.heap.size = xb at *
    have p0 : w7.cell? ⟨tb, 2, none⟩ = some (.slice aa labels.length ca) := HM7.out.cell 6 rfl 2 rfl
    have p1 : w7.cell? ⟨tb, 3, none⟩ = some (.slice al labels.length cl) := HM7.out.cell 6 rfl 3 rfl
    have p2 : w7.cell? ⟨xb, 0, none⟩ = some (.int .i64 (tx.kind : Int)) := HM7.out.cell 0 rfl 0 rfl
    have p3 : w7.cell? ⟨xb, 1, none⟩ = some (.string ⟨tx.s.toArray⟩) := HM7.out.cell 0 rfl 1 rfl
    have p4 : w7.cell? ⟨xb, 2, none⟩ = some (.slice ax tx.args.length cx) := HM7.out.cell 0 rfl 2 rfl
    have p5 : w7.cell? ⟨xb, 3, none⟩ = some (.slice bx tx.labels.length dx) := HM7.out.cell 0 rfl 3 rfl
    have p6 : w7.cell? ⟨xb, 4, none⟩ = some (.bool tx.opn) := HM7.out.cell 0 rfl 4 rfl
    go_upto_region 15 with fail
    go_cut [] (fun wx => ∃ (aa2 : Option Addr) (ca2 : Nat) (al2 : Option Addr) (cl2 : Nat), Hid (Mem w0 wx (rowR 28 5 (.slice aa2 (labels.length + 1) ca2) (labels.length + 1) (kidCells (insAt kids (posL labels s) ⟨tx, #[.int .i64 (tx.kind : Int), .string ⟨tx.s.toArray⟩, .slice ax tx.args.length cx, .slice bx tx.labels.length dx, .bool tx.opn], O⟩)) :: rowR 9 1 (.slice al2 (labels.length + 1) cl2) (labels.length + 1) ((insAt labels (posL labels s) s).map fun x => .string ⟨x.toArray⟩) :: apartR (insAt kids (posL labels s) ⟨tx, #[.int .i64 (tx.kind : Int), .string ⟨tx.s.toArray⟩, .slice ax tx.args.length cx, .slice bx tx.labels.length dx, .bool tx.opn], O⟩) :: cellsR tb 28 #[.int .i64 3, .string ⟨#[]⟩, .slice aa2 (labels.length + 1 : Nat) ca2, .slice al2 (labels.length + 1 : Nat) cl2, .bool false] :: cellsR rb 28 #[.int .i64 0, .string ⟨#[]⟩, .slice none 0 0, .slice none 0 0, .bool false] :: parR b ad l.length c i2 :: rs)))
    case first =>
     have cS : Cond (fun w' => w'.cell? ⟨tb, 2, none⟩ = some (.slice aa labels.length ca) ∧ w'.cell? ⟨tb, 3, none⟩ = some (.slice al labels.length cl) ∧ w'.cell? ⟨xb, 0, none⟩ = some (.int .i64 (tx.kind : Int)) ∧ w'.cell? ⟨xb, 1, none⟩ = some (.string ⟨tx.s.toArray⟩) ∧ w'.cell? ⟨xb, 2, none⟩ = some (.slice ax tx.args.length cx) ∧ w'.cell? ⟨xb, 3, none⟩ = some (.slice bx tx.labels.length dx) ∧ w'.cell? ⟨xb, 4, none⟩ = some (.bool tx.opn)) := ⟨⟩
     refine cS.keep [13, 15] ?_ (fun hH0 => ?_)
     ·exact ⟨p0, p1, p2, p3, p4, p5, p6⟩
     have H0 := Tre.hid HM7.out.drew
     generalize hq : w7.drew = wq0 at H0 hH0 ⊢
     clear hq p0 p1 p2 p3 p4 p5 p6 HM7
     refine lPq 0 (some 40) (v := ?_) rfl ?_ (keep_of hH0) ?_
     rotate_left
     ·intro w; go_simp <;> with_reducible rfl
     try simp only [Act.put, zqf, zqg, zqh]
     refine lPq 2 (some 42) (v := ?_) rfl ?_ (keep_of hH0) ?_
     rotate_left
     ·intro w; go_simp <;> with_reducible rfl
     try simp only [Act.put, zqf, zqg, zqh]
     refine lPq 3 (some 43) (v := ?_) rfl ?_ (keep_of hH0) ?_
     rotate_left
     ·intro w; go_simp <;> with_reducible rfl
     try simp only [Act.put, zqf, zqg, zqh]
     refine lPq 6 (some 46) (v := ?_) rfl ?_ (keep_of hH0) ?_
     rotate_left
     ·intro w; go_simp <;> with_reducible rfl
     try simp only [Act.put, zqf, zqg, zqh]
     refine lPq 8 (some 48) (v := ?_) rfl ?_ (keep_of hH0) ?_
     rotate_left
     ·intro w; go_simp <;> with_reducible rfl
     try simp only [Act.put, zqf, zqg, zqh]
     refine lTq 1 (some 41) (v := ?_) rfl ?_ hH0 ?_
     rotate_left
     ·intro w hSw; (try dsimp only at hSw); go_simp <;> with_reducible rfl
     try simp only [Act.put, zqf, zqg, zqh]
     refine lTq 7 (some 47) (v := ?_) rfl ?_ hH0 ?_
     rotate_left
     ·intro w hSw; (try dsimp only at hSw); go_simp <;> with_reducible rfl
     try simp only [Act.put, zqf, zqg, zqh]
     refine lTq 9 (some 49) (v := ?_) rfl ?_ hH0 ?_
     rotate_left
     ·intro w hSw; (try dsimp only at hSw); go_simp <;> with_reducible rfl
     try simp only [Act.put, zqf, zqg, zqh]
     refine lTwo 4 10 (by kernel_rfl) (LStep.op (fun K hK => ?_)) (LStep.op (fun K hK => ?_))
     ·
      have MA := H0.out.allocRow #[.string ⟨s.toArray⟩] 9 1 1 (by unfold maxLen; omega) rfl
      go_simp
      generalize hnb : wq0.heap.size = ns at MA ⊢
      generalize hw : wq0.alloc (.cells #[.string ⟨s.toArray⟩] 9) = wq1 at MA ⊢
      have s0 : wq1.cell? ⟨tb, 2, none⟩ = some (.slice aa labels.length ca) := MA.cell 7 rfl 2 rfl
      have s1 : wq1.cell? ⟨tb, 3, none⟩ = some (.slice al labels.length cl) := MA.cell 7 rfl 3 rfl
      have s2 : wq1.cell? ⟨xb, 0, none⟩ = some (.int .i64 (tx.kind : Int)) := MA.cell 1 rfl 0 rfl
      have s3 : wq1.cell? ⟨xb, 1, none⟩ = some (.string ⟨tx.s.toArray⟩) := MA.cell 1 rfl 1 rfl
      have s4 : wq1.cell? ⟨xb, 2, none⟩ = some (.slice ax tx.args.length cx) := MA.cell 1 rfl 2 rfl
      have s5 : wq1.cell? ⟨xb, 3, none⟩ = some (.slice bx tx.labels.length dx) := MA.cell 1 rfl 3 rfl
      have s6 : wq1.cell? ⟨xb, 4, none⟩ = some (.bool tx.opn) := MA.cell 1 rfl 4 rfl
      have S0 := Tre.hid s0
      have S1 := Tre.hid s1
      have S2 := Tre.hid s2
      have S3 := Tre.hid s3
      have S4 := Tre.hid s4
      have S5 := Tre.hid s5
      have S6 := Tre.hid s6
      clear s0 s1 s2 s3 s4 s5 s6
      have H1 := Tre.hid MA
      clear MA hw hnb
      refine hK.out _ _ ?_ (fun hH1 => ?_)
      ·exact ⟨S0.out, S1.out, S2.out, S3.out, S4.out, S5.out, S6.out⟩
      clear hK K hH0
      try simp only [Act.put, zqf, zqg, zqh]
      refine lTwo 5 10 (by kernel_rfl) (LStep.op (fun K hK => ?_)) (LStep.op (fun K hK => ?_))
      ·
       go_simp
       refine (insStrAt w0 _ _ al labels.length cl ns (posL labels s) (labels.map fun x => .string ⟨x.toArray⟩) (.string ⟨s.toArray⟩) (H1.out.front 5 rfl) (posL_le labels s) hln.out (fun v hv => by obtain ⟨_, _, rfl⟩ := List.mem_map.1 hv; rfl) rfl).mono ?_
       rintro e wq2 ⟨al2, cl2, rfl, m⟩
       have s0 : wq2.cell? ⟨tb, 2, none⟩ = some (.slice aa labels.length ca) := m.cell 7 rfl 2 rfl
       have s1 : wq2.cell? ⟨tb, 3, none⟩ = some (.slice al labels.length cl) := m.cell 7 rfl 3 rfl
       have s2 : wq2.cell? ⟨xb, 0, none⟩ = some (.int .i64 (tx.kind : Int)) := m.cell 2 rfl 0 rfl
       have s3 : wq2.cell? ⟨xb, 1, none⟩ = some (.string ⟨tx.s.toArray⟩) := m.cell 2 rfl 1 rfl
       have s4 : wq2.cell? ⟨xb, 2, none⟩ = some (.slice ax tx.args.length cx) := m.cell 2 rfl 2 rfl
       have s5 : wq2.cell? ⟨xb, 3, none⟩ = some (.slice bx tx.labels.length dx) := m.cell 2 rfl 3 rfl
       have s6 : wq2.cell? ⟨xb, 4, none⟩ = some (.bool tx.opn) := m.cell 2 rfl 4 rfl
       have S0 := Tre.hid s0
       have S1 := Tre.hid s1
       have S2 := Tre.hid s2
       have S3 := Tre.hid s3
       have S4 := Tre.hid s4
       have S5 := Tre.hid s5
       have S6 := Tre.hid s6
       clear s0 s1 s2 s3 s4 s5 s6
       have H2 := Tre.hid m
       clear m
       refine hK.out _ _ ?_ (fun hH2 => ?_)
       ·exact ⟨S0.out, S1.out, S2.out, S3.out, S4.out, S5.out, S6.out⟩
       clear hK K hH1
       try simp only [Act.put, zqf, zqg, zqh]
       refine lPq 12 (some 52) (v := ?_) rfl ?_ (keep_of hH2) ?_
       rotate_left
       ·intro w; go_simp <;> with_reducible rfl
       try simp only [Act.put, zqf, zqg, zqh]
       refine lOne 10 (by kernel_rfl) (LStep.op (fun K hK => ?_))
       have MA := H2.out.allocRow #[.int .i64 (tx.kind : Int), .string ⟨tx.s.toArray⟩, .slice ax tx.args.length cx, .slice bx tx.labels.length dx, .bool tx.opn] 28 5 1 (by unfold maxLen; omega) rfl
       go_simp
       generalize hnb : wq2.heap.size = nt at MA ⊢
       generalize hw : wq2.alloc (.cells #[.int .i64 (tx.kind : Int), .string ⟨tx.s.toArray⟩, .slice ax tx.args.length cx, .slice bx tx.labels.length dx, .bool tx.opn] 28) = wq3 at MA ⊢
       have s0 : wq3.cell? ⟨tb, 2, none⟩ = some (.slice aa labels.length ca) := MA.cell 8 rfl 2 rfl
       have s1 : wq3.cell? ⟨tb, 3, none⟩ = some (.slice al labels.length cl) := MA.cell 8 rfl 3 rfl
       have s2 : wq3.cell? ⟨xb, 0, none⟩ = some (.int .i64 (tx.kind : Int)) := MA.cell 3 rfl 0 rfl
       have s3 : wq3.cell? ⟨xb, 1, none⟩ = some (.string ⟨tx.s.toArray⟩) := MA.cell 3 rfl 1 rfl
       have s4 : wq3.cell? ⟨xb, 2, none⟩ = some (.slice ax tx.args.length cx) := MA.cell 3 rfl 2 rfl
       have s5 : wq3.cell? ⟨xb, 3, none⟩ = some (.slice bx tx.labels.length dx) := MA.cell 3 rfl 3 rfl
       have s6 : wq3.cell? ⟨xb, 4, none⟩ = some (.bool tx.opn) := MA.cell 3 rfl 4 rfl
       have S0 := Tre.hid s0
       have S1 := Tre.hid s1
       have S2 := Tre.hid s2
       have S3 := Tre.hid s3
       have S4 := Tre.hid s4
       have S5 := Tre.hid s5
       have S6 := Tre.hid s6
       clear s0 s1 s2 s3 s4 s5 s6
       have H3 := Tre.hid MA
       clear MA hw hnb
       refine hK.out _ _ ?_ (fun hH3 => ?_)
       ·exact ⟨S0.out, S1.out, S2.out, S3.out, S4.out, S5.out, S6.out⟩
       clear hK K hH2
       try simp only [Act.put, zqf, zqg, zqh]
       refine lOne 11 (by kernel_rfl) (LStep.op (fun K hK => ?_))
       go_simp
       refine (insTyAt w0 _ _ aa labels.length ca nt (posL labels s) (kidCells kids) [.int .i64 (tx.kind : Int), .string ⟨tx.s.toArray⟩, .slice ax tx.args.length cx, .slice bx tx.labels.length dx, .bool tx.opn] (H3.out.front 6 rfl) (posL_le labels s) hln.out (kids_one (H3.out.at_ 7 rfl)) (by simp [Value.oneCell'])).mono ?_
       rintro e wq4 ⟨aa2, ca2, rfl, m⟩
       have s0 : wq4.cell? ⟨tb, 2, none⟩ = some (.slice aa labels.length ca) := m.cell 8 rfl 2 rfl
       have s1 : wq4.cell? ⟨tb, 3, none⟩ = some (.slice al labels.length cl) := m.cell 8 rfl 3 rfl
       have s2 : wq4.cell? ⟨xb, 0, none⟩ = some (.int .i64 (tx.kind : Int)) := m.cell 4 rfl 0 rfl
       have s3 : wq4.cell? ⟨xb, 1, none⟩ = some (.string ⟨tx.s.toArray⟩) := m.cell 4 rfl 1 rfl
       have s4 : wq4.cell? ⟨xb, 2, none⟩ = some (.slice ax tx.args.length cx) := m.cell 4 rfl 2 rfl
       have s5 : wq4.cell? ⟨xb, 3, none⟩ = some (.slice bx tx.labels.length dx) := m.cell 4 rfl 3 rfl
       have s6 : wq4.cell? ⟨xb, 4, none⟩ = some (.bool tx.opn) := m.cell 4 rfl 4 rfl
       have S0 := Tre.hid s0
       have S1 := Tre.hid s1
       have S2 := Tre.hid s2
       have S3 := Tre.hid s3
       have S4 := Tre.hid s4
       have S5 := Tre.hid s5
       have S6 := Tre.hid s6
       clear s0 s1 s2 s3 s4 s5 s6
       have H4 := Tre.hid m
       clear m
       refine hK.out _ _ ?_ (fun hH4 => ?_)
       ·exact ⟨S0.out, S1.out, S2.out, S3.out, S4.out, S5.out, S6.out⟩
       clear hK K hH3
       try simp only [Act.put, zqf, zqg, zqh]
       refine lOne 13 (by kernel_rfl) (LFall.op (by kernel_rfl) (fun K hK => ?_))
       have g0 := H4.out.cell 8 rfl 3 rfl
       have f0 := H4.out.free 8 rfl 3
       have H9 := H4.out.setCell 8 rfl 3 (.slice al2 (labels.length + 1 : Nat) cl2)
       go_simp
       generalize hw : wq4.setCell ⟨tb, 3, none⟩ (.slice al2 (labels.length + 1 : Nat) cl2) = wq5 at H9 ⊢
       have H5 := Tre.hid H9
       clear H9 hw g0 f0
       refine hK.out _ _ ?_
       clear hK K hH4
       try simp only [Act.put, zqf, zqg, zqh]
       refine lPq 14 (some 53) (v := ?_) rfl ?_ (keep_fell (by kernel_rfl)) ?_
       rotate_left
       ·intro w; go_simp <;> with_reducible rfl
       try simp only [Act.put, zqf, zqg, zqh]
       refine lOne 15 (by kernel_rfl) (LFall.op (by kernel_rfl) (fun K hK => ?_))
       have g0 := H5.out.cell 8 rfl 2 rfl
       have f0 := H5.out.free 8 rfl 2
       have H9 := H5.out.setCell 8 rfl 2 (.slice aa2 (labels.length + 1 : Nat) ca2)
       go_simp
       generalize hw : wq5.setCell ⟨tb, 2, none⟩ (.slice aa2 (labels.length + 1 : Nat) ca2) = wq6 at H9 ⊢
       have H6 := Tre.hid H9
       clear H9 hw g0 f0
       refine hK.out _ _ ?_
       clear hK K
       try simp only [Act.put, zqf, zqg, zqh]
       refine lDone (by kernel_rfl) ?_
       have MB := ((((((((((H6.out.front 1 rfl).front 3 rfl).front 4 rfl).front 6 rfl).front 9 rfl).front 9 rfl).front 7 rfl).front 7 rfl).front 9 rfl).front 9 rfl)
       have h5 := kids_five (H6.out.at_ 7 rfl)
       have MK := Mem.apartAt (k := ⟨tx, #[.int .i64 (tx.kind : Int), .string ⟨tx.s.toArray⟩, .slice ax tx.args.length cx, .slice bx tx.labels.length dx, .bool tx.opn], O⟩) MB (posL labels s)
       have ME := ((MK.del 8).del 7).del 6
       clear MB MK
       have MF := Tre.hid ((ME.front 2 rfl).front 2 rfl)
       clear ME
       go_wp2_with fail
       go_meet
       refine ⟨aa2, ca2, al2, cl2, ?_⟩
       show Mem _ _ _
       rw [kidCells_at h5 _ (by rw [HKL.out.1]; exact posL_le labels s), insAt_map]
       rw [show insAt (labels.map fun x => (Value.string ⟨x.toArray⟩)) (posL labels s) (.string ⟨s.toArray⟩) = (labels.map fun x => (Value.string ⟨x.toArray⟩)).take (posL labels s) ++ [.string ⟨s.toArray⟩] ++ (labels.map fun x => (Value.string ⟨x.toArray⟩)).drop (posL labels s) from by unfold insAt; simp]
       exact MF.out
      ·
       have MA := H1.out.allocRow #[.int .i64 (tx.kind : Int), .string ⟨tx.s.toArray⟩, .slice ax tx.args.length cx, .slice bx tx.labels.length dx, .bool tx.opn] 28 5 1 (by unfold maxLen; omega) rfl
       go_simp
       generalize hnb : wq1.heap.size = nt at MA ⊢
       generalize hw : wq1.alloc (.cells #[.int .i64 (tx.kind : Int), .string ⟨tx.s.toArray⟩, .slice ax tx.args.length cx, .slice bx tx.labels.length dx, .bool tx.opn] 28) = wq2 at MA ⊢
       have s0 : wq2.cell? ⟨tb, 2, none⟩ = some (.slice aa labels.length ca) := MA.cell 8 rfl 2 rfl
       have s1 : wq2.cell? ⟨tb, 3, none⟩ = some (.slice al labels.length cl) := MA.cell 8 rfl 3 rfl
       have s2 : wq2.cell? ⟨xb, 0, none⟩ = some (.int .i64 (tx.kind : Int)) := MA.cell 2 rfl 0 rfl
       have s3 : wq2.cell? ⟨xb, 1, none⟩ = some (.string ⟨tx.s.toArray⟩) := MA.cell 2 rfl 1 rfl
       have s4 : wq2.cell? ⟨xb, 2, none⟩ = some (.slice ax tx.args.length cx) := MA.cell 2 rfl 2 rfl
       have s5 : wq2.cell? ⟨xb, 3, none⟩ = some (.slice bx tx.labels.length dx) := MA.cell 2 rfl 3 rfl
       have s6 : wq2.cell? ⟨xb, 4, none⟩ = some (.bool tx.opn) := MA.cell 2 rfl 4 rfl
       have S0 := Tre.hid s0
       have S1 := Tre.hid s1
       have S2 := Tre.hid s2
       have S3 := Tre.hid s3
       have S4 := Tre.hid s4
       have S5 := Tre.hid s5
       have S6 := Tre.hid s6
       clear s0 s1 s2 s3 s4 s5 s6
       have H2 := Tre.hid MA
       clear MA hw hnb
       refine hK.out _ _ ?_ (fun hH5 => ?_)
       ·exact ⟨S0.out, S1.out, S2.out, S3.out, S4.out, S5.out, S6.out⟩
       clear hK K hH1
       try simp only [Act.put, zqf, zqg, zqh]
       refine lOne 5 (by kernel_rfl) (LStep.op (fun K hK => ?_))
       go_simp
       refine (insStrAt w0 _ _ al labels.length cl ns (posL labels s) (labels.map fun x => .string ⟨x.toArray⟩) (.string ⟨s.toArray⟩) ((H2.out.front 1 rfl).front 6 rfl) (posL_le labels s) hln.out (fun v hv => by obtain ⟨_, _, rfl⟩ := List.mem_map.1 hv; rfl) rfl).mono ?_
       rintro e wq3 ⟨al2, cl2, rfl, m⟩
       have s0 : wq3.cell? ⟨tb, 2, none⟩ = some (.slice aa labels.length ca) := m.cell 8 rfl 2 rfl
       have s1 : wq3.cell? ⟨tb, 3, none⟩ = some (.slice al labels.length cl) := m.cell 8 rfl 3 rfl
       have s2 : wq3.cell? ⟨xb, 0, none⟩ = some (.int .i64 (tx.kind : Int)) := m.cell 3 rfl 0 rfl
       have s3 : wq3.cell? ⟨xb, 1, none⟩ = some (.string ⟨tx.s.toArray⟩) := m.cell 3 rfl 1 rfl
       have s4 : wq3.cell? ⟨xb, 2, none⟩ = some (.slice ax tx.args.length cx) := m.cell 3 rfl 2 rfl
       have s5 : wq3.cell? ⟨xb, 3, none⟩ = some (.slice bx tx.labels.length dx) := m.cell 3 rfl 3 rfl
       have s6 : wq3.cell? ⟨xb, 4, none⟩ = some (.bool tx.opn) := m.cell 3 rfl 4 rfl
       have S0 := Tre.hid s0
       have S1 := Tre.hid s1
       have S2 := Tre.hid s2
       have S3 := Tre.hid s3
       have S4 := Tre.hid s4
       have S5 := Tre.hid s5
       have S6 := Tre.hid s6
       clear s0 s1 s2 s3 s4 s5 s6
       have H3 := Tre.hid m
       clear m
       refine hK.out _ _ ?_ (fun hH6 => ?_)
       ·exact ⟨S0.out, S1.out, S2.out, S3.out, S4.out, S5.out, S6.out⟩
       clear hK K hH5
       try simp only [Act.put, zqf, zqg, zqh]
       refine lPq 12 (some 52) (v := ?_) rfl ?_ (keep_of hH6) ?_
       rotate_left
       ·intro w; go_simp <;> with_reducible rfl
       try simp only [Act.put, zqf, zqg, zqh]
       refine lOne 11 (by kernel_rfl) (LStep.op (fun K hK => ?_))
       go_simp
       refine (insTyAt w0 _ _ aa labels.length ca nt (posL labels s) (kidCells kids) [.int .i64 (tx.kind : Int), .string ⟨tx.s.toArray⟩, .slice ax tx.args.length cx, .slice bx tx.labels.length dx, .bool tx.opn] ((H3.out.front 2 rfl).front 6 rfl) (posL_le labels s) hln.out (kids_one (H3.out.at_ 7 rfl)) (by simp [Value.oneCell'])).mono ?_
       rintro e wq4 ⟨aa2, ca2, rfl, m⟩
       have s0 : wq4.cell? ⟨tb, 2, none⟩ = some (.slice aa labels.length ca) := m.cell 8 rfl 2 rfl
       have s1 : wq4.cell? ⟨tb, 3, none⟩ = some (.slice al labels.length cl) := m.cell 8 rfl 3 rfl
       have s2 : wq4.cell? ⟨xb, 0, none⟩ = some (.int .i64 (tx.kind : Int)) := m.cell 4 rfl 0 rfl
       have s3 : wq4.cell? ⟨xb, 1, none⟩ = some (.string ⟨tx.s.toArray⟩) := m.cell 4 rfl 1 rfl
       have s4 : wq4.cell? ⟨xb, 2, none⟩ = some (.slice ax tx.args.length cx) := m.cell 4 rfl 2 rfl
       have s5 : wq4.cell? ⟨xb, 3, none⟩ = some (.slice bx tx.labels.length dx) := m.cell 4 rfl 3 rfl
       have s6 : wq4.cell? ⟨xb, 4, none⟩ = some (.bool tx.opn) := m.cell 4 rfl 4 rfl
       have S0 := Tre.hid s0
       have S1 := Tre.hid s1
       have S2 := Tre.hid s2
       have S3 := Tre.hid s3
       have S4 := Tre.hid s4
       have S5 := Tre.hid s5
       have S6 := Tre.hid s6
       clear s0 s1 s2 s3 s4 s5 s6
       have H4 := Tre.hid m
       clear m
       refine hK.out _ _ ?_ (fun hH7 => ?_)
       ·exact ⟨S0.out, S1.out, S2.out, S3.out, S4.out, S5.out, S6.out⟩
       clear hK K hH6
       try simp only [Act.put, zqf, zqg, zqh]
       refine lOne 13 (by kernel_rfl) (LFall.op (by kernel_rfl) (fun K hK => ?_))
       have g0 := H4.out.cell 8 rfl 3 rfl
       have f0 := H4.out.free 8 rfl 3
       have H9 := H4.out.setCell 8 rfl 3 (.slice al2 (labels.length + 1 : Nat) cl2)
       go_simp
       generalize hw : wq4.setCell ⟨tb, 3, none⟩ (.slice al2 (labels.length + 1 : Nat) cl2) = wq5 at H9 ⊢
       have H5 := Tre.hid H9
       clear H9 hw g0 f0
       refine hK.out _ _ ?_
       clear hK K hH7
       try simp only [Act.put, zqf, zqg, zqh]
       refine lPq 14 (some 53) (v := ?_) rfl ?_ (keep_fell (by kernel_rfl)) ?_
       rotate_left
       ·intro w; go_simp <;> with_reducible rfl
       try simp only [Act.put, zqf, zqg, zqh]
       refine lOne 15 (by kernel_rfl) (LFall.op (by kernel_rfl) (fun K hK => ?_))
       have g0 := H5.out.cell 8 rfl 2 rfl
       have f0 := H5.out.free 8 rfl 2
       have H9 := H5.out.setCell 8 rfl 2 (.slice aa2 (labels.length + 1 : Nat) ca2)
       go_simp
       generalize hw : wq5.setCell ⟨tb, 2, none⟩ (.slice aa2 (labels.length + 1 : Nat) ca2) = wq6 at H9 ⊢
       have H6 := Tre.hid H9
       clear H9 hw g0 f0
       refine hK.out _ _ ?_
       clear hK K
       try simp only [Act.put, zqf, zqg, zqh]
       refine lDone (by kernel_rfl) ?_
       have MB := ((((((((((H6.out.front 1 rfl).front 3 rfl).front 4 rfl).front 6 rfl).front 9 rfl).front 9 rfl).front 7 rfl).front 7 rfl).front 9 rfl).front 9 rfl)
       have h5 := kids_five (H6.out.at_ 7 rfl)
       have MK := Mem.apartAt (k := ⟨tx, #[.int .i64 (tx.kind : Int), .string ⟨tx.s.toArray⟩, .slice ax tx.args.length cx, .slice bx tx.labels.length dx, .bool tx.opn], O⟩) MB (posL labels s)
       have ME := ((MK.del 8).del 7).del 6
       clear MB MK
       have MF := Tre.hid ((ME.front 2 rfl).front 2 rfl)
       clear ME
       go_wp2_with fail
       go_meet
       refine ⟨aa2, ca2, al2, cl2, ?_⟩
       show Mem _ _ _
       rw [kidCells_at h5 _ (by rw [HKL.out.1]; exact posL_le labels s), insAt_map]
       rw [show insAt (labels.map fun x => (Value.string ⟨x.toArray⟩)) (posL labels s) (.string ⟨s.toArray⟩) = (labels.map fun x => (Value.string ⟨x.toArray⟩)).take (posL labels s) ++ [.string ⟨s.toArray⟩] ++ (labels.map fun x => (Value.string ⟨x.toArray⟩)).drop (posL labels s) from by unfold insAt; simp]
       exact MF.out
     ·
      have MA := H0.out.allocRow #[.int .i64 (tx.kind : Int), .string ⟨tx.s.toArray⟩, .slice ax tx.args.length cx, .slice bx tx.labels.length dx, .bool tx.opn] 28 5 1 (by unfold maxLen; omega) rfl
      go_simp
      generalize hnb : wq0.heap.size = nt at MA ⊢
      generalize hw : wq0.alloc (.cells #[.int .i64 (tx.kind : Int), .string ⟨tx.s.toArray⟩, .slice ax tx.args.length cx, .slice bx tx.labels.length dx, .bool tx.opn] 28) = wq1 at MA ⊢
      have s0 : wq1.cell? ⟨tb, 2, none⟩ = some (.slice aa labels.length ca) := MA.cell 7 rfl 2 rfl
      have s1 : wq1.cell? ⟨tb, 3, none⟩ = some (.slice al labels.length cl) := MA.cell 7 rfl 3 rfl
      have s2 : wq1.cell? ⟨xb, 0, none⟩ = some (.int .i64 (tx.kind : Int)) := MA.cell 1 rfl 0 rfl
      have s3 : wq1.cell? ⟨xb, 1, none⟩ = some (.string ⟨tx.s.toArray⟩) := MA.cell 1 rfl 1 rfl
      have s4 : wq1.cell? ⟨xb, 2, none⟩ = some (.slice ax tx.args.length cx) := MA.cell 1 rfl 2 rfl
      have s5 : wq1.cell? ⟨xb, 3, none⟩ = some (.slice bx tx.labels.length dx) := MA.cell 1 rfl 3 rfl
      have s6 : wq1.cell? ⟨xb, 4, none⟩ = some (.bool tx.opn) := MA.cell 1 rfl 4 rfl
      have S0 := Tre.hid s0
      have S1 := Tre.hid s1
      have S2 := Tre.hid s2
      have S3 := Tre.hid s3
      have S4 := Tre.hid s4
      have S5 := Tre.hid s5
      have S6 := Tre.hid s6
      clear s0 s1 s2 s3 s4 s5 s6
      have H1 := Tre.hid MA
      clear MA hw hnb
      refine hK.out _ _ ?_ (fun hH8 => ?_)
      ·exact ⟨S0.out, S1.out, S2.out, S3.out, S4.out, S5.out, S6.out⟩
      clear hK K hH0
      try simp only [Act.put, zqf, zqg, zqh]
      refine lOne 4 (by kernel_rfl) (LStep.op (fun K hK => ?_))
      have MA := H1.out.allocRow #[.string ⟨s.toArray⟩] 9 1 1 (by unfold maxLen; omega) rfl
      go_simp
      generalize hnb : wq1.heap.size = ns at MA ⊢
      generalize hw : wq1.alloc (.cells #[.string ⟨s.toArray⟩] 9) = wq2 at MA ⊢
      have s0 : wq2.cell? ⟨tb, 2, none⟩ = some (.slice aa labels.length ca) := MA.cell 8 rfl 2 rfl
      have s1 : wq2.cell? ⟨tb, 3, none⟩ = some (.slice al labels.length cl) := MA.cell 8 rfl 3 rfl
      have s2 : wq2.cell? ⟨xb, 0, none⟩ = some (.int .i64 (tx.kind : Int)) := MA.cell 2 rfl 0 rfl
      have s3 : wq2.cell? ⟨xb, 1, none⟩ = some (.string ⟨tx.s.toArray⟩) := MA.cell 2 rfl 1 rfl
      have s4 : wq2.cell? ⟨xb, 2, none⟩ = some (.slice ax tx.args.length cx) := MA.cell 2 rfl 2 rfl
      have s5 : wq2.cell? ⟨xb, 3, none⟩ = some (.slice bx tx.labels.length dx) := MA.cell 2 rfl 3 rfl
      have s6 : wq2.cell? ⟨xb, 4, none⟩ = some (.bool tx.opn) := MA.cell 2 rfl 4 rfl
      have S0 := Tre.hid s0
      have S1 := Tre.hid s1
      have S2 := Tre.hid s2
      have S3 := Tre.hid s3
      have S4 := Tre.hid s4
      have S5 := Tre.hid s5
      have S6 := Tre.hid s6
      clear s0 s1 s2 s3 s4 s5 s6
      have H2 := Tre.hid MA
      clear MA hw hnb
      refine hK.out _ _ ?_ (fun hH9 => ?_)
      ·exact ⟨S0.out, S1.out, S2.out, S3.out, S4.out, S5.out, S6.out⟩
      clear hK K hH8
      try simp only [Act.put, zqf, zqg, zqh]
      refine lOne 5 (by kernel_rfl) (LStep.op (fun K hK => ?_))
      go_simp
      refine (insStrAt w0 _ _ al labels.length cl ns (posL labels s) (labels.map fun x => .string ⟨x.toArray⟩) (.string ⟨s.toArray⟩) (H2.out.front 6 rfl) (posL_le labels s) hln.out (fun v hv => by obtain ⟨_, _, rfl⟩ := List.mem_map.1 hv; rfl) rfl).mono ?_
      rintro e wq3 ⟨al2, cl2, rfl, m⟩
      have s0 : wq3.cell? ⟨tb, 2, none⟩ = some (.slice aa labels.length ca) := m.cell 8 rfl 2 rfl
      have s1 : wq3.cell? ⟨tb, 3, none⟩ = some (.slice al labels.length cl) := m.cell 8 rfl 3 rfl
      have s2 : wq3.cell? ⟨xb, 0, none⟩ = some (.int .i64 (tx.kind : Int)) := m.cell 3 rfl 0 rfl
      have s3 : wq3.cell? ⟨xb, 1, none⟩ = some (.string ⟨tx.s.toArray⟩) := m.cell 3 rfl 1 rfl
      have s4 : wq3.cell? ⟨xb, 2, none⟩ = some (.slice ax tx.args.length cx) := m.cell 3 rfl 2 rfl
      have s5 : wq3.cell? ⟨xb, 3, none⟩ = some (.slice bx tx.labels.length dx) := m.cell 3 rfl 3 rfl
      have s6 : wq3.cell? ⟨xb, 4, none⟩ = some (.bool tx.opn) := m.cell 3 rfl 4 rfl
      have S0 := Tre.hid s0
      have S1 := Tre.hid s1
      have S2 := Tre.hid s2
      have S3 := Tre.hid s3
      have S4 := Tre.hid s4
      have S5 := Tre.hid s5
      have S6 := Tre.hid s6
      clear s0 s1 s2 s3 s4 s5 s6
      have H3 := Tre.hid m
      clear m
      refine hK.out _ _ ?_ (fun hH10 => ?_)
      ·exact ⟨S0.out, S1.out, S2.out, S3.out, S4.out, S5.out, S6.out⟩
      clear hK K hH9
      try simp only [Act.put, zqf, zqg, zqh]
      refine lPq 12 (some 52) (v := ?_) rfl ?_ (keep_of hH10) ?_
      rotate_left
      ·intro w; go_simp <;> with_reducible rfl
      try simp only [Act.put, zqf, zqg, zqh]
      refine lOne 11 (by kernel_rfl) (LStep.op (fun K hK => ?_))
      go_simp
      refine (insTyAt w0 _ _ aa labels.length ca nt (posL labels s) (kidCells kids) [.int .i64 (tx.kind : Int), .string ⟨tx.s.toArray⟩, .slice ax tx.args.length cx, .slice bx tx.labels.length dx, .bool tx.opn] ((H3.out.front 2 rfl).front 6 rfl) (posL_le labels s) hln.out (kids_one (H3.out.at_ 7 rfl)) (by simp [Value.oneCell'])).mono ?_
      rintro e wq4 ⟨aa2, ca2, rfl, m⟩
      have s0 : wq4.cell? ⟨tb, 2, none⟩ = some (.slice aa labels.length ca) := m.cell 8 rfl 2 rfl
      have s1 : wq4.cell? ⟨tb, 3, none⟩ = some (.slice al labels.length cl) := m.cell 8 rfl 3 rfl
      have s2 : wq4.cell? ⟨xb, 0, none⟩ = some (.int .i64 (tx.kind : Int)) := m.cell 4 rfl 0 rfl
      have s3 : wq4.cell? ⟨xb, 1, none⟩ = some (.string ⟨tx.s.toArray⟩) := m.cell 4 rfl 1 rfl
      have s4 : wq4.cell? ⟨xb, 2, none⟩ = some (.slice ax tx.args.length cx) := m.cell 4 rfl 2 rfl
      have s5 : wq4.cell? ⟨xb, 3, none⟩ = some (.slice bx tx.labels.length dx) := m.cell 4 rfl 3 rfl
      have s6 : wq4.cell? ⟨xb, 4, none⟩ = some (.bool tx.opn) := m.cell 4 rfl 4 rfl
      have S0 := Tre.hid s0
      have S1 := Tre.hid s1
      have S2 := Tre.hid s2
      have S3 := Tre.hid s3
      have S4 := Tre.hid s4
      have S5 := Tre.hid s5
      have S6 := Tre.hid s6
      clear s0 s1 s2 s3 s4 s5 s6
      have H4 := Tre.hid m
      clear m
      refine hK.out _ _ ?_ (fun hH11 => ?_)
      ·exact ⟨S0.out, S1.out, S2.out, S3.out, S4.out, S5.out, S6.out⟩
      clear hK K hH10
      try simp only [Act.put, zqf, zqg, zqh]
      refine lOne 13 (by kernel_rfl) (LFall.op (by kernel_rfl) (fun K hK => ?_))
      have g0 := H4.out.cell 8 rfl 3 rfl
      have f0 := H4.out.free 8 rfl 3
      have H9 := H4.out.setCell 8 rfl 3 (.slice al2 (labels.length + 1 : Nat) cl2)
      go_simp
      generalize hw : wq4.setCell ⟨tb, 3, none⟩ (.slice al2 (labels.length + 1 : Nat) cl2) = wq5 at H9 ⊢
      have H5 := Tre.hid H9
      clear H9 hw g0 f0
      refine hK.out _ _ ?_
      clear hK K hH11
      try simp only [Act.put, zqf, zqg, zqh]
      refine lPq 14 (some 53) (v := ?_) rfl ?_ (keep_fell (by kernel_rfl)) ?_
      rotate_left
      ·intro w; go_simp <;> with_reducible rfl
      try simp only [Act.put, zqf, zqg, zqh]
      refine lOne 15 (by kernel_rfl) (LFall.op (by kernel_rfl) (fun K hK => ?_))
      have g0 := H5.out.cell 8 rfl 2 rfl
      have f0 := H5.out.free 8 rfl 2
      have H9 := H5.out.setCell 8 rfl 2 (.slice aa2 (labels.length + 1 : Nat) ca2)
      go_simp
      generalize hw : wq5.setCell ⟨tb, 2, none⟩ (.slice aa2 (labels.length + 1 : Nat) ca2) = wq6 at H9 ⊢
      have H6 := Tre.hid H9
      clear H9 hw g0 f0
      refine hK.out _ _ ?_
      clear hK K
      try simp only [Act.put, zqf, zqg, zqh]
      refine lDone (by kernel_rfl) ?_
      have MB := ((((((((((H6.out.front 1 rfl).front 3 rfl).front 4 rfl).front 6 rfl).front 9 rfl).front 9 rfl).front 7 rfl).front 7 rfl).front 9 rfl).front 9 rfl)
      have h5 := kids_five (H6.out.at_ 7 rfl)
      have MK := Mem.apartAt (k := ⟨tx, #[.int .i64 (tx.kind : Int), .string ⟨tx.s.toArray⟩, .slice ax tx.args.length cx, .slice bx tx.labels.length dx, .bool tx.opn], O⟩) MB (posL labels s)
      have ME := ((MK.del 8).del 7).del 6
      clear MB MK
      have MF := Tre.hid ((ME.front 2 rfl).front 2 rfl)
      clear ME
      go_wp2_with fail
      go_meet
      refine ⟨aa2, ca2, al2, cl2, ?_⟩
      show Mem _ _ _
      rw [kidCells_at h5 _ (by rw [HKL.out.1]; exact posL_le labels s), insAt_map]
      rw [show insAt (labels.map fun x => (Value.string ⟨x.toArray⟩)) (posL labels s) (.string ⟨s.toArray⟩) = (labels.map fun x => (Value.string ⟨x.toArray⟩)).take (posL labels s) ++ [.string ⟨s.toArray⟩] ++ (labels.map fun x => (Value.string ⟨x.toArray⟩)).drop (posL labels s) from by unfold insAt; simp]
      exact MF.out
    case rest =>
     clear p0 p1 p2 p3 p4 p5 p6 HM7
     obtain ⟨aa2, ca2, al2, cl2, hM⟩ := hcut
     have hln2 : (insAt labels (posL labels s) s).length = labels.length + 1 := insAt_len _ _ (posL_le labels s)
     have hmap : (insAt kids (posL labels s) (⟨tx, #[.int .i64 (tx.kind : Int), .string ⟨tx.s.toArray⟩, .slice ax tx.args.length cx, .slice bx tx.labels.length dx, .bool tx.opn], O⟩ : Kid)).map Kid.t = insAt (kids.map Kid.t) (posL labels s) tx := insAt_map ..
     have hkk : (insAt kids (posL labels s) (⟨tx, #[.int .i64 (tx.kind : Int), .string ⟨tx.s.toArray⟩, .slice ax tx.args.length cx, .slice bx tx.labels.length dx, .bool tx.opn], O⟩ : Kid)).length = labels.length + 1 := by rw [insAt_len _ _ (by rw [HKL.out.1]; exact posL_le labels s), HKL.out.1]
     have HKK := Tre.hid hkk
     have HRI2 := Tre.hid (insAt_ris HRI.out HA.out)
     have HLN2 := Tre.hid hln2
     have HMAP := Tre.hid hmap
     clear hln2 hmap hkk
     by_cases ht : tk l i2 6 [62] = true
     ·have hp := HP3.out
      rw [if_pos ht] at hp
      simp only [zqe, Prod.mk.injEq] at hp
      obtain ⟨rfl, rfl⟩ := hp
      have HT := Tre.hid ht
      have HJ := Tre.hid (tk_lt HE.out (by omega) ht)
      clear ht HP3
      go_wp2_with fail
      refine (takes w0 _ b ad c l i2 6 ⟨#[62]⟩ _ (hM.out.front 5 rfl) HL.out HJ2.out hll true HT.out).mono ?_
      rintro e w8 ⟨rfl, M8⟩
      rw [if_pos rfl] at M8
      have HM8 := Tre.hid M8
      clear M8 hM
      have v0 : w8.cell? ⟨tb, 0, none⟩ = some (.int .i64 3) := HM8.out.cell 4 rfl 0 rfl
      have v1 : w8.cell? ⟨tb, 1, none⟩ = some (.string ⟨#[]⟩) := HM8.out.cell 4 rfl 1 rfl
      have v2 : w8.cell? ⟨tb, 2, none⟩ = some (.slice aa2 (labels.length + 1 : Nat) ca2) := HM8.out.cell 4 rfl 2 rfl
      have v3 : w8.cell? ⟨tb, 3, none⟩ = some (.slice al2 (labels.length + 1 : Nat) cl2) := HM8.out.cell 4 rfl 3 rfl
      have v4 : w8.cell? ⟨tb, 4, none⟩ = some (.bool false) := HM8.out.cell 4 rfl 4 rfl
      have MT : Mem w0 w8 (cellsR rb 28 #[.int .i64 0, .string ⟨#[]⟩, .slice none 0 0, .slice none 0 0, .bool false] :: _) := HM8.out.front 5 rfl
      have g0 : w8.cell? ⟨rb, 0, none⟩ = some (.int .i64 0) := MT.cell 0 rfl 0 rfl
      have g1 : w8.cell? ⟨rb, 1, none⟩ = some (.string ⟨#[]⟩) := MT.cell 0 rfl 1 rfl
      have g2 : w8.cell? ⟨rb, 2, none⟩ = some (.slice none 0 0) := MT.cell 0 rfl 2 rfl
      have g3 : w8.cell? ⟨rb, 3, none⟩ = some (.slice none 0 0) := MT.cell 0 rfl 3 rfl
      have g4 : w8.cell? ⟨rb, 4, none⟩ = some (.bool false) := MT.cell 0 rfl 4 rfl
      have f0 := MT.free 0 rfl 0
      have f1 := MT.free 0 rfl 1
      have f2 := MT.free 0 rfl 2
      have f3 := MT.free 0 rfl 3
      have f4 := MT.free 0 rfl 4
      have M6 : Mem w0 (((((w8.setCell ⟨rb, 0, none⟩ (.int .i64 3)).setCell ⟨rb, 1, none⟩ (.string ⟨#[]⟩)).setCell ⟨rb, 2, none⟩ (.slice aa2 (labels.length + 1 : Nat) ca2)).setCell ⟨rb, 3, none⟩ (.slice al2 (labels.length + 1 : Nat) cl2)).setCell ⟨rb, 4, none⟩ (.bool false)) (cellsR rb 28 #[.int .i64 3, .string ⟨#[]⟩, .slice aa2 (labels.length + 1 : Nat) ca2, .slice al2 (labels.length + 1 : Nat) cl2, .bool false] :: _) := (((((MT.setCell 0 rfl 0 (.int .i64 3)).setCell 0 rfl 1 (.string ⟨#[]⟩)).setCell 0 rfl 2 (.slice aa2 (labels.length + 1 : Nat) ca2)).setCell 0 rfl 3 (.slice al2 (labels.length + 1 : Nat) cl2)).setCell 0 rfl 4 (.bool false))
      have HM6 := Tre.hid M6
      clear M6 MT
      go_wp2_with fail
      have z0 : (((((w8.setCell ⟨rb, 0, none⟩ (.int .i64 3)).setCell ⟨rb, 1, none⟩ (.string ⟨#[]⟩)).setCell ⟨rb, 2, none⟩ (.slice aa2 (labels.length + 1 : Nat) ca2)).setCell ⟨rb, 3, none⟩ (.slice al2 (labels.length + 1 : Nat) cl2)).setCell ⟨rb, 4, none⟩ (.bool false)).cell? ⟨rb, 0, none⟩ = some (.int .i64 3) := HM6.out.cell 0 rfl 0 rfl
      have z1 : (((((w8.setCell ⟨rb, 0, none⟩ (.int .i64 3)).setCell ⟨rb, 1, none⟩ (.string ⟨#[]⟩)).setCell ⟨rb, 2, none⟩ (.slice aa2 (labels.length + 1 : Nat) ca2)).setCell ⟨rb, 3, none⟩ (.slice al2 (labels.length + 1 : Nat) cl2)).setCell ⟨rb, 4, none⟩ (.bool false)).cell? ⟨rb, 1, none⟩ = some (.string ⟨#[]⟩) := HM6.out.cell 0 rfl 1 rfl
      have z2 : (((((w8.setCell ⟨rb, 0, none⟩ (.int .i64 3)).setCell ⟨rb, 1, none⟩ (.string ⟨#[]⟩)).setCell ⟨rb, 2, none⟩ (.slice aa2 (labels.length + 1 : Nat) ca2)).setCell ⟨rb, 3, none⟩ (.slice al2 (labels.length + 1 : Nat) cl2)).setCell ⟨rb, 4, none⟩ (.bool false)).cell? ⟨rb, 2, none⟩ = some (.slice aa2 (labels.length + 1 : Nat) ca2) := HM6.out.cell 0 rfl 2 rfl
      have z3 : (((((w8.setCell ⟨rb, 0, none⟩ (.int .i64 3)).setCell ⟨rb, 1, none⟩ (.string ⟨#[]⟩)).setCell ⟨rb, 2, none⟩ (.slice aa2 (labels.length + 1 : Nat) ca2)).setCell ⟨rb, 3, none⟩ (.slice al2 (labels.length + 1 : Nat) cl2)).setCell ⟨rb, 4, none⟩ (.bool false)).cell? ⟨rb, 3, none⟩ = some (.slice al2 (labels.length + 1 : Nat) cl2) := HM6.out.cell 0 rfl 3 rfl
      have z4 : (((((w8.setCell ⟨rb, 0, none⟩ (.int .i64 3)).setCell ⟨rb, 1, none⟩ (.string ⟨#[]⟩)).setCell ⟨rb, 2, none⟩ (.slice aa2 (labels.length + 1 : Nat) ca2)).setCell ⟨rb, 3, none⟩ (.slice al2 (labels.length + 1 : Nat) cl2)).setCell ⟨rb, 4, none⟩ (.bool false)).cell? ⟨rb, 4, none⟩ = some (.bool false) := HM6.out.cell 0 rfl 4 rfl
      refine bodyPost_ret (v := .agg #[.int .i64 3, .string ⟨#[]⟩, .slice aa2 (labels.length + 1 : Nat) ca2, .slice al2 (labels.length + 1 : Nat) cl2, .bool false]) (by simp [results, Tryz.results81, go_sem, z0, z1, z2, z3, z4]) rfl ?_
      have HR := HM6.out.drop1
      have MZ := (((HR.del 4).front 3 rfl).front 3 rfl).front 3 rfl
      have hkl : labels.length + 1 = (insAt kids (posL labels s) (⟨tx, #[.int .i64 (tx.kind : Int), .string ⟨tx.s.toArray⟩, .slice ax tx.args.length cx, .slice bx tx.labels.length dx, .bool tx.opn], O⟩ : Kid)).length := HKK.out.symm
      have MW := Mem.tyMake (labels := insAt labels (posL labels s) s) 3 [] false MZ.apartRows hkl HLN2.out.symm rfl
      rw [← HMAP.out]
      exact levPost_of (labels.length + 1) (by rw [List.length_map]; exact hkl.symm) HLN2.out HJ.out MW
     ·have hp := HP3.out
      rw [if_neg ht] at hp
      have hsc : tk l i2 6 [59] = true := by
       cases hb : tk l i2 6 [59]
       ·rw [hb] at hp; simp at hp
       ·rfl
      rw [hsc, if_pos rfl] at hp
      have HP4 := Tre.hid hp
      have HT : Hid (tk l i2 6 [62] = false) := by show _ = _; simpa using ht
      have HSC := Tre.hid hsc
      have HI4 := Tre.hid (tk_lt HE.out (by omega) hsc)
      have HI12 : Hid (labels.length + 1 ≤ i2 + 1) := by have h1 := HKL.out.2; have h2 := HGO.out; show _ ≤ _; omega
      clear ht hsc hp HP3
      go_wp2_with fail
      refine (takes w0 _ b ad c l i2 6 ⟨#[62]⟩ _ (hM.out.front 5 rfl) HL.out HJ2.out hll false HT.out).mono ?_
      rintro e w8 ⟨rfl, M8⟩
      rw [if_neg (by simp)] at M8
      have HM8 := Tre.hid M8
      clear M8 hM
      go_wp2_with fail
      refine (need w0 _ b ad c l i2 ⟨#[59]⟩ _ HM8.out HL.out HJ2.out hll HSC.out).mono ?_
      rintro e w9 ⟨rfl, M9⟩
      have HM9 := Tre.hid ((((((M9.front 5 rfl).front 5 rfl).front 5 rfl).front 5 rfl).front 5 rfl))
      clear M9 HM8
      go_wp2_with fail
      go_roundg m
      case measure => omega
      case rel =>
       refine ⟨_, insAt kids (posL labels s) ⟨tx, #[.int .i64 (tx.kind : Int), .string ⟨tx.s.toArray⟩, .slice ax tx.args.length cx, .slice bx tx.labels.length dx, .bool tx.opn], O⟩, insAt labels (posL labels s) s, i2 + 1, aa2, ca2, al2, cl2, rfl, ⟨?_, by have := hmk.out; omega⟩, HI4.out, ⟨?_, ?_⟩, HRI2.out, ?_⟩
       ·rw [HMAP.out]; exact HP4.out
       ·rw [HKK.out, HLN2.out]
       ·rw [HLN2.out]; exact HI12.out
       ·show Mem _ _ _
        rw [HLN2.out]; exact HM9.out
end Go.Proofs.YtbafalfmgibnfaaGreatDoor.typ
