/- solve: join where two classes are made one. -/
import Derived.Test.YtlkfhbmjemjohaaGreatDoorB10
set_option linter.unusedVariables false
namespace Go.Proofs.YtlkfhbmjemjohaaGreatDoor.sol
open Go.RowKit Go.Shelf Go.Maps Go.MapKept Go.ChangeMaps Go.Tre lex gr
set_option maxRecDepth 100000 in
set_option maxHeartbeats 16000000 in
theorem join_walk (s gO cO gR cR gH cH N a b x y : Nat) (aW : Option Addr) (cW : Nat) (cs : List ClsV) (on rank has : List Nat) (waits : List (Nat × Nat)) (P : Nat → List (Nat × Nat) → Prop) (w0 w : World) (rs : List Res)
  (hN : N ≤ 8388608) (lO : on.length = N) (lR : rank.length = N) (lH : has.length = N) (ha : a < N) (hb : b < N) (hx : x < N) (hy : y < N) (hxy : x ≠ y) (ea : on.getD a 0 = x) (eb : on.getD b 0 = y) (ey : on.getD y 0 = y)
  (hlt : ∀ j, j < on.length → on.getD j 0 < on.length) (hon : ∀ j, j < on.length → on.getD (on.getD j 0) 0 = on.getD j 0) (rx : rank.getD x 0 = 0) (ry : rank.getD y 0 = 0) (kx : has.getD x 0 = x) (ky' : has.getD y 0 = y)
  (hB : ∀ (W : World) (rs : List Res), Mem w0 W (SW s (.slice (some ⟨gO, 0, none⟩) N cO) (.slice (some ⟨gR, 0, none⟩) N cR) (.slice (some ⟨gH, 0, none⟩) N cH) aW cW waits cs rs) →
   Calls Tryz.prog 55 #[.pointer (some ⟨s, 0, none⟩), aggC (cs.getD y zeroC), aggC (cs.getD x zeroC)] W fun e w' => ∃ (m : Nat) (new : List (Nat × Nat)) (a1 : Option Addr) (c1 : Nat), e = .returned (.tuple #[aggC (cs.getD m zeroC), .bool true]) ∧ P m new ∧
    Mem w0 w' (SW s (.slice (some ⟨gO, 0, none⟩) N cO) (.slice (some ⟨gR, 0, none⟩) N cR) (.slice (some ⟨gH, 0, none⟩) N cH) a1 c1 (waits ++ new) cs rs))
  (hM : Mem w0 w (cellsR s 64 #[.slice (some ⟨gO, 0, none⟩) N cO, .slice (some ⟨gR, 0, none⟩) N cR, .slice (some ⟨gH, 0, none⟩) N cH, .slice aW waits.length cW] :: rowR 34 2 (.slice aW waits.length cW) waits.length (pairCells waits) :: mapsR cs :: rowR 3 1 (.slice (some ⟨gO, 0, none⟩) N cO) N (on.map en) :: rowR 3 1 (.slice (some ⟨gR, 0, none⟩) N cR) N (rank.map en) :: rowR 72 5 (.slice (some ⟨gH, 0, none⟩) N cH) N (hasCells cs has) :: rs)) :
  Calls Tryz.prog 45 #[.pointer (some ⟨s, 0, none⟩), .int .i64 (a : Int), .int .i64 (b : Int)] w fun e w' => e = .returned .nilIface ∧ ∃ (m : Nat) (new : List (Nat × Nat)) (a1 : Option Addr) (c1 : Nat) (cM : ClsV), P m new ∧ cs.getD m zeroC = cM ∧ Mem w0 w' (cellsR s 64 #[.slice (some ⟨gO, 0, none⟩) N cO, .slice (some ⟨gR, 0, none⟩) N cR, .slice (some ⟨gH, 0, none⟩) N cH, .slice a1 (waits ++ new).length c1] :: rowR 34 2 (.slice a1 (waits ++ new).length c1) (waits ++ new).length (pairCells (waits ++ new)) :: mapsR cs :: rowR 3 1 (.slice (some ⟨gO, 0, none⟩) N cO) N ((on.map en).set y (.int .i64 (x : Int))) :: rowR 3 1 (.slice (some ⟨gR, 0, none⟩) N cR) N ((rank.map en).set x (.int .i64 1)) :: rowR 72 5 (.slice (some ⟨gH, 0, none⟩) N cH) N ((((((hasCells cs has).set (x * 5) (.int .i64 cM.n.kind)).set (x * 5 + 1) (.string cM.n.name)).set (x * 5 + 2) (.slice cM.aa cM.na cM.ca)).set (x * 5 + 3) (.map cM.mf)).set (x * 5 + 4) (.bool cM.n.isOpen)) :: rs) := by
 have onCell : ∀ j, j < N → (on.map en)[j]? = some (en (on.getD j 0)) := fun j hj => by rw [List.getElem?_map, List.getD_eq_getElem?_getD, List.getElem?_eq_getElem (by omega)]; rfl
 have rkCell : ∀ j, j < N → (rank.map en)[j]? = some (en (rank.getD j 0)) := fun j hj => by rw [List.getElem?_map, List.getD_eq_getElem?_getD, List.getElem?_eq_getElem (by omega)]; rfl
 have OA : ∀ W : World, Mem w0 W (cellsR s 64 #[.slice (some ⟨gO, 0, none⟩) N cO, .slice (some ⟨gR, 0, none⟩) N cR, .slice (some ⟨gH, 0, none⟩) N cH, .slice aW waits.length cW] :: rowR 34 2 (.slice aW waits.length cW) waits.length (pairCells waits) :: mapsR cs :: rowR 3 1 (.slice (some ⟨gO, 0, none⟩) N cO) N (on.map en) :: rowR 3 1 (.slice (some ⟨gR, 0, none⟩) N cR) N (rank.map en) :: rowR 72 5 (.slice (some ⟨gH, 0, none⟩) N cH) N (hasCells cs has) :: rs) → OnAt W s gO cO on := fun W h => ⟨by rw [lO]; exact h.cell 0 rfl 0 rfl, fun j hj => h.cellAt 3 rfl j (onCell j (by omega)), fun j _ => h.freeAt 3 rfl j, hlt, hon⟩
 have HOA := Tre.hid OA
 have F1 : ∀ W : World, Mem w0 W (cellsR s 64 #[.slice (some ⟨gO, 0, none⟩) N cO, .slice (some ⟨gR, 0, none⟩) N cR, .slice (some ⟨gH, 0, none⟩) N cH, .slice aW waits.length cW] :: rowR 34 2 (.slice aW waits.length cW) waits.length (pairCells waits) :: mapsR cs :: rowR 3 1 (.slice (some ⟨gO, 0, none⟩) N cO) N (on.map en) :: rowR 3 1 (.slice (some ⟨gR, 0, none⟩) N cR) N (rank.map en) :: rowR 72 5 (.slice (some ⟨gH, 0, none⟩) N cH) N (hasCells cs has) :: rs) → Calls Tryz.prog 27 #[.pointer (some ⟨s, 0, none⟩), .int .i64 (a : Int)] W fun e w' => e = .returned (.int .i64 (x : Int)) ∧ Below W.heap.size W w' := fun W h => by
  have := find_any s gO cO on a W (OA W h) (by omega) (by omega); rw [ea] at this; exact this
 have F2 : ∀ W : World, Mem w0 W (cellsR s 64 #[.slice (some ⟨gO, 0, none⟩) N cO, .slice (some ⟨gR, 0, none⟩) N cR, .slice (some ⟨gH, 0, none⟩) N cH, .slice aW waits.length cW] :: rowR 34 2 (.slice aW waits.length cW) waits.length (pairCells waits) :: mapsR cs :: rowR 3 1 (.slice (some ⟨gO, 0, none⟩) N cO) N (on.map en) :: rowR 3 1 (.slice (some ⟨gR, 0, none⟩) N cR) N (rank.map en) :: rowR 72 5 (.slice (some ⟨gH, 0, none⟩) N cH) N (hasCells cs has) :: rs) → Calls Tryz.prog 27 #[.pointer (some ⟨s, 0, none⟩), .int .i64 (b : Int)] W fun e w' => e = .returned (.int .i64 (y : Int)) ∧ Below W.heap.size W w' := fun W h => by
  have := find_any s gO cO on b W (OA W h) (by omega) (by omega); rw [eb] at this; exact this
 have HF1 := Tre.hid F1
 have HF2 := Tre.hid F2
 have hRx := rkCell x hx
 have hRy := rkCell y hy
 rw [rx] at hRx
 rw [ry] at hRy
 have RX := Tre.hid hRx
 have RY := Tre.hid hRy
 have hOy := onCell y hy
 rw [ey] at hOy
 have YO := Tre.hid hOy
 have hX : ∀ j, j < 5 → (hasCells cs has)[x * 5 + j]? = (cs.getD x zeroC).cells[j]? := fun j hj => by rw [hasCells_at cs has x j (by omega) hj, kx]
 have hY : ∀ j, j < 5 → (hasCells cs has)[y * 5 + j]? = (cs.getD y zeroC).cells[j]? := fun j hj => by rw [hasCells_at cs has y j (by omega) hj, ky']
 generalize cs.getD x zeroC = cX at *
 generalize cs.getD y zeroC = cY at *
 have X0 : Hid ((hasCells cs has)[x * 5]? = some (.int .i64 cX.n.kind)) := hX 0 (by omega)
 have X1 : Hid ((hasCells cs has)[x * 5 + 1]? = some (.string cX.n.name)) := hX 1 (by omega)
 have X2 : Hid ((hasCells cs has)[x * 5 + 2]? = some (.slice cX.aa cX.na cX.ca)) := hX 2 (by omega)
 have X3 : Hid ((hasCells cs has)[x * 5 + 3]? = some (.map cX.mf)) := hX 3 (by omega)
 have X4 : Hid ((hasCells cs has)[x * 5 + 4]? = some (.bool cX.n.isOpen)) := hX 4 (by omega)
 have Y0 : Hid ((hasCells cs has)[y * 5]? = some (.int .i64 cY.n.kind)) := hY 0 (by omega)
 have Y1 : Hid ((hasCells cs has)[y * 5 + 1]? = some (.string cY.n.name)) := hY 1 (by omega)
 have Y2 : Hid ((hasCells cs has)[y * 5 + 2]? = some (.slice cY.aa cY.na cY.ca)) := hY 2 (by omega)
 have Y3 : Hid ((hasCells cs has)[y * 5 + 3]? = some (.map cY.mf)) := hY 3 (by omega)
 have Y4 : Hid ((hasCells cs has)[y * 5 + 4]? = some (.bool cY.n.isOpen)) := hY 4 (by omega)
 have HB := Tre.hid hB
 have HM0 := Tre.hid hM
 have n1 : ¬ (x : Int) = (y : Int) := by omega
 have i1 : (x : Int) < (N : Int) := by omega
 have i2 : (y : Int) < (N : Int) := by omega
 clear hX hY hRx hRy hOy OA F1 F2 onCell rkCell hB hM hlt hon rx ry kx ky' ea eb ey lO lR lH hxy
 go_enter Tryz.func45, Tryz.ntmps45
 go_wp2_with fail
 refine (HF1.out w HM0.out).mono ?_
 rintro e w1 ⟨rfl, b1⟩
 have HM1 := Tre.hid (HM0.out.quiet b1)
 clear b1 HM0
 go_wp2_with fail
 refine (HF2.out w1 HM1.out).mono ?_
 rintro e w2 ⟨rfl, b2⟩
 have M2 := HM1.out.quiet b2
 have r0 : w2.cell? ⟨s, 1, none⟩ = some (.slice (some ⟨gR, 0, none⟩) N cR) := M2.cell 0 rfl 1 rfl
 have r1 : w2.cell? ⟨gR, x, none⟩ = some (.int .i64 0) := M2.cellAt 4 rfl x RX.out
 have r2 : w2.cell? ⟨gR, y, none⟩ = some (.int .i64 0) := M2.cellAt 4 rfl y RY.out
 have HM2 := Tre.hid M2
 clear b2 HM1 M2
 go_wp2_with fail
 go_region
 clear r0 r1 r2
 have HM := Tre.hid HM2.out.drew
 generalize hq : World.drew _ = w3 at HM ⊢
 clear hq HM2
 go_wp2_with fail
 have t0 : w3.cell? ⟨s, 2, none⟩ = some (.slice (some ⟨gH, 0, none⟩) N cH) := HM.out.cell 0 rfl 2 rfl
 have u0 : w3.cell? ⟨gH, y * 5, none⟩ = some (.int .i64 cY.n.kind) := HM.out.cellAt 5 rfl _ Y0.out
 have u1 : w3.cell? ⟨gH, y * 5 + 1, none⟩ = some (.string cY.n.name) := HM.out.cellAt 5 rfl _ Y1.out
 have u2 : w3.cell? ⟨gH, y * 5 + 2, none⟩ = some (.slice cY.aa cY.na cY.ca) := HM.out.cellAt 5 rfl _ Y2.out
 have u3 : w3.cell? ⟨gH, y * 5 + 3, none⟩ = some (.map cY.mf) := HM.out.cellAt 5 rfl _ Y3.out
 have u4 : w3.cell? ⟨gH, y * 5 + 4, none⟩ = some (.bool cY.n.isOpen) := HM.out.cellAt 5 rfl _ Y4.out
 have v0 : w3.cell? ⟨gH, x * 5, none⟩ = some (.int .i64 cX.n.kind) := HM.out.cellAt 5 rfl _ X0.out
 have v1 : w3.cell? ⟨gH, x * 5 + 1, none⟩ = some (.string cX.n.name) := HM.out.cellAt 5 rfl _ X1.out
 have v2 : w3.cell? ⟨gH, x * 5 + 2, none⟩ = some (.slice cX.aa cX.na cX.ca) := HM.out.cellAt 5 rfl _ X2.out
 have v3 : w3.cell? ⟨gH, x * 5 + 3, none⟩ = some (.map cX.mf) := HM.out.cellAt 5 rfl _ X3.out
 have v4 : w3.cell? ⟨gH, x * 5 + 4, none⟩ = some (.bool cX.n.isOpen) := HM.out.cellAt 5 rfl _ X4.out
 have cS : Cond (fun w' => w'.cell? ⟨s, 2, none⟩ = some (.slice (some ⟨gH, 0, none⟩) N cH) ∧ w'.cell? ⟨gH, y * 5, none⟩ = some (.int .i64 cY.n.kind) ∧ w'.cell? ⟨gH, y * 5 + 1, none⟩ = some (.string cY.n.name) ∧ w'.cell? ⟨gH, y * 5 + 2, none⟩ = some (.slice cY.aa cY.na cY.ca) ∧ w'.cell? ⟨gH, y * 5 + 3, none⟩ = some (.map cY.mf) ∧ w'.cell? ⟨gH, y * 5 + 4, none⟩ = some (.bool cY.n.isOpen) ∧ w'.cell? ⟨gH, x * 5, none⟩ = some (.int .i64 cX.n.kind) ∧ w'.cell? ⟨gH, x * 5 + 1, none⟩ = some (.string cX.n.name) ∧ w'.cell? ⟨gH, x * 5 + 2, none⟩ = some (.slice cX.aa cX.na cX.ca) ∧ w'.cell? ⟨gH, x * 5 + 3, none⟩ = some (.map cX.mf) ∧ w'.cell? ⟨gH, x * 5 + 4, none⟩ = some (.bool cX.n.isOpen)) := ⟨⟩
 refine cS.keep [15, 20] ?_ (fun hH0 => ?_)
 ·exact ⟨t0, u0, u1, u2, u3, u4, v0, v1, v2, v3, v4⟩
 have HM0 := Tre.hid HM.out.drew
 generalize hq : World.drew _ = wq0 at HM0 hH0 ⊢
 clear hq HM t0 u0 u1 u2 u3 u4 v0 v1 v2 v3 v4
 refine lPq 0 (some 38) (v := ?_) rfl ?_ (keep_of hH0) ?_
 rotate_left
 ·intro w; go_simp <;> with_reducible rfl
 try simp only [Act.put, zqf, zqg, zqh]
 refine lPq 1 (some 39) (v := ?_) rfl ?_ (keep_of hH0) ?_
 rotate_left
 ·intro w; go_simp <;> with_reducible rfl
 try simp only [Act.put, zqf, zqg, zqh]
 refine lPq 2 (some 40) (v := ?_) rfl ?_ (keep_of hH0) ?_
 rotate_left
 ·intro w; go_simp <;> with_reducible rfl
 try simp only [Act.put, zqf, zqg, zqh]
 refine lPq 3 (some 41) (v := ?_) rfl ?_ (keep_of hH0) ?_
 rotate_left
 ·intro w; go_simp <;> with_reducible rfl
 try simp only [Act.put, zqf, zqg, zqh]
 refine lPq 5 (some 43) (v := ?_) rfl ?_ (keep_of hH0) ?_
 rotate_left
 ·intro w; go_simp <;> with_reducible rfl
 try simp only [Act.put, zqf, zqg, zqh]
 refine lPq 8 (some 46) (v := ?_) rfl ?_ (keep_of hH0) ?_
 rotate_left
 ·intro w; go_simp <;> with_reducible rfl
 try simp only [Act.put, zqf, zqg, zqh]
 refine lPq 9 (some 47) (v := ?_) rfl ?_ (keep_of hH0) ?_
 rotate_left
 ·intro w; go_simp <;> with_reducible rfl
 try simp only [Act.put, zqf, zqg, zqh]
 refine lPq 10 (some 48) (v := ?_) rfl ?_ (keep_of hH0) ?_
 rotate_left
 ·intro w; go_simp <;> with_reducible rfl
 try simp only [Act.put, zqf, zqg, zqh]
 refine lPq 12 (some 50) (v := ?_) rfl ?_ (keep_of hH0) ?_
 rotate_left
 ·intro w; go_simp <;> with_reducible rfl
 try simp only [Act.put, zqf, zqg, zqh]
 refine lTq 4 (some 42) (v := ?_) rfl ?_ hH0 ?_
 rotate_left
 ·intro w hSw; (try dsimp only at hSw); go_simp <;> with_reducible rfl
 try simp only [Act.put, zqf, zqg, zqh]
 refine lPq 6 (some 44) (v := ?_) rfl ?_ (keep_of hH0) ?_
 rotate_left
 ·intro w; go_simp <;> with_reducible rfl
 try simp only [Act.put, zqf, zqg, zqh]
 refine lTq 7 (some 45) (v := ?_) rfl ?_ hH0 ?_
 rotate_left
 ·intro w hSw; (try dsimp only at hSw); go_simp <;> with_reducible rfl
 try simp only [Act.put, zqf, zqg, zqh]
 refine lTq 11 (some 49) (v := ?_) rfl ?_ hH0 ?_
 rotate_left
 ·intro w hSw; (try dsimp only at hSw); go_simp <;> with_reducible rfl
 try simp only [Act.put, zqf, zqg, zqh]
 refine lPq 13 (some 51) (v := ?_) rfl ?_ (keep_of hH0) ?_
 rotate_left
 ·intro w; go_simp <;> with_reducible rfl
 try simp only [Act.put, zqf, zqg, zqh]
 refine lTq 14 (some 52) (v := ?_) rfl ?_ hH0 ?_
 rotate_left
 ·intro w hSw; (try dsimp only at hSw); go_simp <;> with_reducible rfl
 try simp only [Act.put, zqf, zqg, zqh]
 refine lTwo 15 19 (by kernel_rfl) (LFall.op (by kernel_rfl) (fun K hK => ?_)) (LStep.op (fun K hK => ?_))
 ·
  go_simp
  have HC := HB.out _ _ HM0.out
  refine HC.mono ?_
  rintro e' wq1 ⟨m, new, a1, c1, rfl, hP, m1⟩
  generalize hcM : cs.getD m zeroC = cM
  have hcMM := Tre.hid hcM
  clear hcM
  have HP := Tre.hid hP
  have HM1 := Tre.hid m1
  clear hP m1 HC
  (try dsimp only)
  refine hK.out _ _ ?_
  clear hK K hH0
  try simp only [Act.put, zqf, zqg, zqh]
  refine lPq 16 (some 37) (v := ?_) rfl ?_ (keep_fell (by kernel_rfl)) ?_
  rotate_left
  ·intro w; go_simp <;> with_reducible rfl
  try simp only [Act.put, zqf, zqg, zqh]
  refine lPq 17 (some 54) (v := ?_) rfl ?_ (keep_fell (by kernel_rfl)) ?_
  rotate_left
  ·intro w; go_simp <;> with_reducible rfl
  try simp only [Act.put, zqf, zqg, zqh]
  refine lPq 18 (some 55) (v := ?_) rfl ?_ (keep_fell (by kernel_rfl)) ?_
  rotate_left
  ·intro w; go_simp <;> with_reducible rfl
  try simp only [Act.put, zqf, zqg, zqh]
  refine lOne 19 (by kernel_rfl) (LFall.op (by kernel_rfl) (fun K hK => ?_))
  have MA := HM1.out.allocR #[.int .i64 0, .string ⟨#[]⟩, .slice none 0 0, .map none, .bool false] 72
  go_simp
  generalize hnb : wq1.heap.size = nb at MA ⊢
  generalize hw : wq1.alloc (.cells #[.int .i64 0, .string ⟨#[]⟩, .slice none 0 0, .map none, .bool false] 72) = wq2 at MA ⊢
  have HM2 := Tre.hid MA
  clear MA hnb hw
  refine hK.out _ _ ?_
  clear hK K
  try simp only [Act.put, zqf, zqg, zqh]
  refine lOne 20 (by kernel_rfl) (LFall.op (by kernel_rfl) (fun K hK => ?_))
  have MT := HM2.out
  have g0 : wq2.cell? ⟨nb, 0, none⟩ = some (.int .i64 0) := MT.cell 0 rfl 0 rfl
  have g1 : wq2.cell? ⟨nb, 1, none⟩ = some (.string ⟨#[]⟩) := MT.cell 0 rfl 1 rfl
  have g2 : wq2.cell? ⟨nb, 2, none⟩ = some (.slice none 0 0) := MT.cell 0 rfl 2 rfl
  have g3 : wq2.cell? ⟨nb, 3, none⟩ = some (.map none) := MT.cell 0 rfl 3 rfl
  have g4 : wq2.cell? ⟨nb, 4, none⟩ = some (.bool false) := MT.cell 0 rfl 4 rfl
  have f0 := MT.free 0 rfl 0
  have f1 := MT.free 0 rfl 1
  have f2 := MT.free 0 rfl 2
  have f3 := MT.free 0 rfl 3
  have f4 := MT.free 0 rfl 4
  have M6 := (((((MT.setCell 0 rfl 0 (.int .i64 cM.n.kind)).setCell 0 rfl 1 (.string cM.n.name)).setCell 0 rfl 2 (.slice cM.aa cM.na cM.ca)).setCell 0 rfl 3 (.map cM.mf)).setCell 0 rfl 4 (.bool cM.n.isOpen))
  go_simp
  generalize hw : (((((wq2.setCell ⟨nb, 0, none⟩ (.int .i64 cM.n.kind)).setCell ⟨nb, 1, none⟩ (.string cM.n.name)).setCell ⟨nb, 2, none⟩ (.slice cM.aa cM.na cM.ca)).setCell ⟨nb, 3, none⟩ (.map cM.mf)).setCell ⟨nb, 4, none⟩ (.bool cM.n.isOpen)) = wq3 at M6 ⊢
  have HM3 := Tre.hid M6
  clear M6 MT hw g0 g1 g2 g3 g4 f0 f1 f2 f3 f4
  refine hK.out _ _ ?_
  clear hK K
  try simp only [Act.put, zqf, zqg, zqh]
  refine lPq 21 (some 10) (v := ?_) rfl ?_ (keep_fell (by kernel_rfl)) ?_
  rotate_left
  ·intro w; go_simp <;> with_reducible rfl
  try simp only [Act.put, zqf, zqg, zqh]
  refine lDone (by kernel_rfl) ?_
  have r0 : wq3.cell? ⟨s, 1, none⟩ = some (.slice (some ⟨gR, 0, none⟩) N cR) := HM3.out.cell 1 rfl 1 rfl
  have r1 : wq3.cell? ⟨gR, x, none⟩ = some (.int .i64 0) := HM3.out.cellAt 5 rfl x RX.out
  have r2 : wq3.cell? ⟨gR, y, none⟩ = some (.int .i64 0) := HM3.out.cellAt 5 rfl y RY.out
  go_wp2_with fail
  go_region
  clear r0 r1 r2
  have HM4 := Tre.hid HM3.out.drew
  generalize hq : World.drew _ = w4 at HM4 ⊢
  clear hq HM3
  have r0 : w4.cell? ⟨s, 1, none⟩ = some (.slice (some ⟨gR, 0, none⟩) N cR) := HM4.out.cell 1 rfl 1 rfl
  have r1 : w4.cell? ⟨gR, x, none⟩ = some (.int .i64 0) := HM4.out.cellAt 5 rfl x RX.out
  have r2 := HM4.out.freeAt 5 rfl x
  have M5 := HM4.out.setRow 5 rfl x (.int .i64 1)
  go_wp2_with fail
  generalize hw : w4.setCell ⟨gR, x, none⟩ (.int .i64 1) = w5 at M5 ⊢
  have t0 : w5.cell? ⟨s, 0, none⟩ = some (.slice (some ⟨gO, 0, none⟩) N cO) := M5.cell 1 rfl 0 rfl
  have t1 : w5.cell? ⟨s, 2, none⟩ = some (.slice (some ⟨gH, 0, none⟩) N cH) := M5.cell 1 rfl 2 rfl
  have u0 : w5.cell? ⟨nb, 0, none⟩ = some (.int .i64 cM.n.kind) := M5.cell 0 rfl 0 rfl
  have u1 : w5.cell? ⟨nb, 1, none⟩ = some (.string cM.n.name) := M5.cell 0 rfl 1 rfl
  have u2 : w5.cell? ⟨nb, 2, none⟩ = some (.slice cM.aa cM.na cM.ca) := M5.cell 0 rfl 2 rfl
  have u3 : w5.cell? ⟨nb, 3, none⟩ = some (.map cM.mf) := M5.cell 0 rfl 3 rfl
  have u4 : w5.cell? ⟨nb, 4, none⟩ = some (.bool cM.n.isOpen) := M5.cell 0 rfl 4 rfl
  have HM5 := Tre.hid M5
  clear M5 hw r0 r1 r2 HM4
  have cS : Cond (fun w' => w'.cell? ⟨s, 0, none⟩ = some (.slice (some ⟨gO, 0, none⟩) N cO) ∧ w'.cell? ⟨s, 2, none⟩ = some (.slice (some ⟨gH, 0, none⟩) N cH) ∧ w'.cell? ⟨nb, 0, none⟩ = some (.int .i64 cM.n.kind) ∧ w'.cell? ⟨nb, 1, none⟩ = some (.string cM.n.name) ∧ w'.cell? ⟨nb, 2, none⟩ = some (.slice cM.aa cM.na cM.ca) ∧ w'.cell? ⟨nb, 3, none⟩ = some (.map cM.mf) ∧ w'.cell? ⟨nb, 4, none⟩ = some (.bool cM.n.isOpen)) := ⟨⟩
  refine cS.keep [15] ?_ (fun hH0 => ?_)
  ·exact ⟨t0, t1, u0, u1, u2, u3, u4⟩
  have HM0 := Tre.hid HM5.out.drew
  generalize hq : World.drew _ = wq0 at HM0 hH0 ⊢
  clear hq HM5 t0 t1 u0 u1 u2 u3 u4
  refine lPq 0 (some 90) (v := ?_) rfl ?_ (keep_of hH0) ?_
  rotate_left
  ·intro w; go_simp <;> with_reducible rfl
  try simp only [Act.put, zqf, zqg, zqh]
  refine lPq 1 (some 91) (v := ?_) rfl ?_ (keep_of hH0) ?_
  rotate_left
  ·intro w; go_simp <;> with_reducible rfl
  try simp only [Act.put, zqf, zqg, zqh]
  refine lPq 2 (some 92) (v := ?_) rfl ?_ (keep_of hH0) ?_
  rotate_left
  ·intro w; go_simp <;> with_reducible rfl
  try simp only [Act.put, zqf, zqg, zqh]
  refine lPq 4 (some 94) (v := ?_) rfl ?_ (keep_of hH0) ?_
  rotate_left
  ·intro w; go_simp <;> with_reducible rfl
  try simp only [Act.put, zqf, zqg, zqh]
  refine lPq 5 (some 95) (v := ?_) rfl ?_ (keep_of hH0) ?_
  rotate_left
  ·intro w; go_simp <;> with_reducible rfl
  try simp only [Act.put, zqf, zqg, zqh]
  refine lPq 6 (some 96) (v := ?_) rfl ?_ (keep_of hH0) ?_
  rotate_left
  ·intro w; go_simp <;> with_reducible rfl
  try simp only [Act.put, zqf, zqg, zqh]
  refine lPq 7 (some 97) (v := ?_) rfl ?_ (keep_of hH0) ?_
  rotate_left
  ·intro w; go_simp <;> with_reducible rfl
  try simp only [Act.put, zqf, zqg, zqh]
  refine lPq 9 (some 99) (v := ?_) rfl ?_ (keep_of hH0) ?_
  rotate_left
  ·intro w; go_simp <;> with_reducible rfl
  try simp only [Act.put, zqf, zqg, zqh]
  refine lPq 10 (some 100) (v := ?_) rfl ?_ (keep_of hH0) ?_
  rotate_left
  ·intro w; go_simp <;> with_reducible rfl
  try simp only [Act.put, zqf, zqg, zqh]
  refine lTq 3 (some 93) (v := ?_) rfl ?_ hH0 ?_
  rotate_left
  ·intro w hSw; (try dsimp only at hSw); go_simp <;> with_reducible rfl
  try simp only [Act.put, zqf, zqg, zqh]
  refine lTq 8 (some 98) (v := ?_) rfl ?_ hH0 ?_
  rotate_left
  ·intro w hSw; (try dsimp only at hSw); go_simp <;> with_reducible rfl
  try simp only [Act.put, zqf, zqg, zqh]
  refine lPq 12 (some 102) (v := ?_) rfl ?_ (keep_of hH0) ?_
  rotate_left
  ·intro w; go_simp <;> with_reducible rfl
  try simp only [Act.put, zqf, zqg, zqh]
  refine lTq 11 (some 101) (v := ?_) rfl ?_ hH0 ?_
  rotate_left
  ·intro w hSw; (try dsimp only at hSw); go_simp <;> with_reducible rfl
  try simp only [Act.put, zqf, zqg, zqh]
  refine lOne 13 (by kernel_rfl) (LStep.op (fun K hK => ?_))
  have k0 : wq0.cell? ⟨gO, y, none⟩ = some (.int .i64 (y : Int)) := HM0.out.cellAt 4 rfl y YO.out
  have f0 := HM0.out.freeAt 4 rfl y
  have MA := HM0.out.setRow 4 rfl y (.int .i64 (x : Int))
  go_simp
  generalize hw : wq0.setCell ⟨gO, y, none⟩ (.int .i64 (x : Int)) = wq1 at MA ⊢
  have HM1 := Tre.hid MA
  have t0 : wq1.cell? ⟨s, 0, none⟩ = some (.slice (some ⟨gO, 0, none⟩) N cO) := MA.cell 1 rfl 0 rfl
  have t1 : wq1.cell? ⟨s, 2, none⟩ = some (.slice (some ⟨gH, 0, none⟩) N cH) := MA.cell 1 rfl 2 rfl
  have u0 : wq1.cell? ⟨nb, 0, none⟩ = some (.int .i64 cM.n.kind) := MA.cell 0 rfl 0 rfl
  have u1 : wq1.cell? ⟨nb, 1, none⟩ = some (.string cM.n.name) := MA.cell 0 rfl 1 rfl
  have u2 : wq1.cell? ⟨nb, 2, none⟩ = some (.slice cM.aa cM.na cM.ca) := MA.cell 0 rfl 2 rfl
  have u3 : wq1.cell? ⟨nb, 3, none⟩ = some (.map cM.mf) := MA.cell 0 rfl 3 rfl
  have u4 : wq1.cell? ⟨nb, 4, none⟩ = some (.bool cM.n.isOpen) := MA.cell 0 rfl 4 rfl
  clear MA hw k0 f0
  refine hK.out _ _ ?_ (fun hH1 => ?_)
  ·exact ⟨t0, t1, u0, u1, u2, u3, u4⟩
  clear hK K hH0
  try simp only [Act.put, zqf, zqg, zqh]
  refine lPq 14 (some 103) (v := ?_) rfl ?_ (keep_of hH1) ?_
  rotate_left
  ·intro w; go_simp <;> with_reducible rfl
  try simp only [Act.put, zqf, zqg, zqh]
  refine lOne 15 (by kernel_rfl) (LFall.op (by kernel_rfl) (fun K hK => ?_))
  clear t0 t1 u0 u1 u2 u3 u4
  have g0 := HM1.out.cellAt 6 rfl _ X0.out
  have g1 := HM1.out.cellAt 6 rfl _ X1.out
  have g2 := HM1.out.cellAt 6 rfl _ X2.out
  have g3 := HM1.out.cellAt 6 rfl _ X3.out
  have g4 := HM1.out.cellAt 6 rfl _ X4.out
  have f0 := HM1.out.freeAt 6 rfl (x * 5)
  have f1 := HM1.out.freeAt 6 rfl (x * 5 + 1)
  have f2 := HM1.out.freeAt 6 rfl (x * 5 + 2)
  have f3 := HM1.out.freeAt 6 rfl (x * 5 + 3)
  have f4 := HM1.out.freeAt 6 rfl (x * 5 + 4)
  have M6 := (((((HM1.out.setRow 6 rfl (x * 5) (.int .i64 cM.n.kind)).setRow 6 rfl (x * 5 + 1) (.string cM.n.name)).setRow 6 rfl (x * 5 + 2) (.slice cM.aa cM.na cM.ca)).setRow 6 rfl (x * 5 + 3) (.map cM.mf)).setRow 6 rfl (x * 5 + 4) (.bool cM.n.isOpen))
  go_simp
  generalize hw : (((((wq1.setCell ⟨gH, x * 5, none⟩ (.int .i64 cM.n.kind)).setCell ⟨gH, x * 5 + 1, none⟩ (.string cM.n.name)).setCell ⟨gH, x * 5 + 2, none⟩ (.slice cM.aa cM.na cM.ca)).setCell ⟨gH, x * 5 + 3, none⟩ (.map cM.mf)).setCell ⟨gH, x * 5 + 4, none⟩ (.bool cM.n.isOpen)) = wq3 at M6 ⊢
  have HM3 := Tre.hid M6
  clear M6 hw g0 g1 g2 g3 g4 f0 f1 f2 f3 f4
  refine hK.out _ _ ?_
  clear hK K hH1
  try simp only [Act.put, zqf, zqg, zqh]
  refine lDone (by kernel_rfl) ?_
  go_wp2_with fail
  go_ret
  exact ⟨rfl, m, new, a1, c1, cM, HP.out, hcMM.out, HM3.out.del 0⟩
 ·
  have MA := HM0.out.allocR #[.int .i64 0, .string ⟨#[]⟩, .slice none 0 0, .map none, .bool false] 72
  go_simp
  generalize hnb : wq0.heap.size = nb at MA ⊢
  generalize hw : wq0.alloc (.cells #[.int .i64 0, .string ⟨#[]⟩, .slice none 0 0, .map none, .bool false] 72) = wq1 at MA ⊢
  have HM1 := Tre.hid MA
  have t0 : wq1.cell? ⟨s, 2, none⟩ = some (.slice (some ⟨gH, 0, none⟩) N cH) := MA.cell 1 rfl 2 rfl
  have u0 : wq1.cell? ⟨gH, y * 5, none⟩ = some (.int .i64 cY.n.kind) := MA.cellAt 6 rfl _ Y0.out
  have u1 : wq1.cell? ⟨gH, y * 5 + 1, none⟩ = some (.string cY.n.name) := MA.cellAt 6 rfl _ Y1.out
  have u2 : wq1.cell? ⟨gH, y * 5 + 2, none⟩ = some (.slice cY.aa cY.na cY.ca) := MA.cellAt 6 rfl _ Y2.out
  have u3 : wq1.cell? ⟨gH, y * 5 + 3, none⟩ = some (.map cY.mf) := MA.cellAt 6 rfl _ Y3.out
  have u4 : wq1.cell? ⟨gH, y * 5 + 4, none⟩ = some (.bool cY.n.isOpen) := MA.cellAt 6 rfl _ Y4.out
  have v0 : wq1.cell? ⟨gH, x * 5, none⟩ = some (.int .i64 cX.n.kind) := MA.cellAt 6 rfl _ X0.out
  have v1 : wq1.cell? ⟨gH, x * 5 + 1, none⟩ = some (.string cX.n.name) := MA.cellAt 6 rfl _ X1.out
  have v2 : wq1.cell? ⟨gH, x * 5 + 2, none⟩ = some (.slice cX.aa cX.na cX.ca) := MA.cellAt 6 rfl _ X2.out
  have v3 : wq1.cell? ⟨gH, x * 5 + 3, none⟩ = some (.map cX.mf) := MA.cellAt 6 rfl _ X3.out
  have v4 : wq1.cell? ⟨gH, x * 5 + 4, none⟩ = some (.bool cX.n.isOpen) := MA.cellAt 6 rfl _ X4.out
  clear MA hnb hw
  refine hK.out _ _ ?_ (fun hH1 => ?_)
  ·exact ⟨t0, u0, u1, u2, u3, u4, v0, v1, v2, v3, v4⟩
  clear hK K hH0
  try simp only [Act.put, zqf, zqg, zqh]
  refine lOne 15 (by kernel_rfl) (LFall.op (by kernel_rfl) (fun K hK => ?_))
  go_simp
  clear t0 u0 u1 u2 u3 u4 v0 v1 v2 v3 v4
  have HC := HB.out _ _ (((HM1.out.front 3 rfl).front 3 rfl).front 3 rfl)
  refine HC.mono ?_
  rintro e' wq2 ⟨m, new, a1, c1, rfl, hP, m1⟩
  generalize hcM : cs.getD m zeroC = cM
  have hcMM := Tre.hid hcM
  clear hcM
  have HP := Tre.hid hP
  have HM2 := Tre.hid m1
  clear hP m1 HC
  (try dsimp only)
  refine hK.out _ _ ?_
  clear hK K hH1
  try simp only [Act.put, zqf, zqg, zqh]
  refine lPq 16 (some 37) (v := ?_) rfl ?_ (keep_fell (by kernel_rfl)) ?_
  rotate_left
  ·intro w; go_simp <;> with_reducible rfl
  try simp only [Act.put, zqf, zqg, zqh]
  refine lPq 17 (some 54) (v := ?_) rfl ?_ (keep_fell (by kernel_rfl)) ?_
  rotate_left
  ·intro w; go_simp <;> with_reducible rfl
  try simp only [Act.put, zqf, zqg, zqh]
  refine lPq 18 (some 55) (v := ?_) rfl ?_ (keep_fell (by kernel_rfl)) ?_
  rotate_left
  ·intro w; go_simp <;> with_reducible rfl
  try simp only [Act.put, zqf, zqg, zqh]
  refine lOne 20 (by kernel_rfl) (LFall.op (by kernel_rfl) (fun K hK => ?_))
  have MT := HM2.out.front 3 rfl
  have g0 : wq2.cell? ⟨nb, 0, none⟩ = some (.int .i64 0) := MT.cell 0 rfl 0 rfl
  have g1 : wq2.cell? ⟨nb, 1, none⟩ = some (.string ⟨#[]⟩) := MT.cell 0 rfl 1 rfl
  have g2 : wq2.cell? ⟨nb, 2, none⟩ = some (.slice none 0 0) := MT.cell 0 rfl 2 rfl
  have g3 : wq2.cell? ⟨nb, 3, none⟩ = some (.map none) := MT.cell 0 rfl 3 rfl
  have g4 : wq2.cell? ⟨nb, 4, none⟩ = some (.bool false) := MT.cell 0 rfl 4 rfl
  have f0 := MT.free 0 rfl 0
  have f1 := MT.free 0 rfl 1
  have f2 := MT.free 0 rfl 2
  have f3 := MT.free 0 rfl 3
  have f4 := MT.free 0 rfl 4
  have M6 := (((((MT.setCell 0 rfl 0 (.int .i64 cM.n.kind)).setCell 0 rfl 1 (.string cM.n.name)).setCell 0 rfl 2 (.slice cM.aa cM.na cM.ca)).setCell 0 rfl 3 (.map cM.mf)).setCell 0 rfl 4 (.bool cM.n.isOpen))
  go_simp
  generalize hw : (((((wq2.setCell ⟨nb, 0, none⟩ (.int .i64 cM.n.kind)).setCell ⟨nb, 1, none⟩ (.string cM.n.name)).setCell ⟨nb, 2, none⟩ (.slice cM.aa cM.na cM.ca)).setCell ⟨nb, 3, none⟩ (.map cM.mf)).setCell ⟨nb, 4, none⟩ (.bool cM.n.isOpen)) = wq3 at M6 ⊢
  have HM3 := Tre.hid M6
  clear M6 MT hw g0 g1 g2 g3 g4 f0 f1 f2 f3 f4
  refine hK.out _ _ ?_
  clear hK K
  try simp only [Act.put, zqf, zqg, zqh]
  refine lPq 21 (some 10) (v := ?_) rfl ?_ (keep_fell (by kernel_rfl)) ?_
  rotate_left
  ·intro w; go_simp <;> with_reducible rfl
  try simp only [Act.put, zqf, zqg, zqh]
  refine lDone (by kernel_rfl) ?_
  have r0 : wq3.cell? ⟨s, 1, none⟩ = some (.slice (some ⟨gR, 0, none⟩) N cR) := HM3.out.cell 1 rfl 1 rfl
  have r1 : wq3.cell? ⟨gR, x, none⟩ = some (.int .i64 0) := HM3.out.cellAt 5 rfl x RX.out
  have r2 : wq3.cell? ⟨gR, y, none⟩ = some (.int .i64 0) := HM3.out.cellAt 5 rfl y RY.out
  go_wp2_with fail
  go_region
  clear r0 r1 r2
  have HM4 := Tre.hid HM3.out.drew
  generalize hq : World.drew _ = w4 at HM4 ⊢
  clear hq HM3
  have r0 : w4.cell? ⟨s, 1, none⟩ = some (.slice (some ⟨gR, 0, none⟩) N cR) := HM4.out.cell 1 rfl 1 rfl
  have r1 : w4.cell? ⟨gR, x, none⟩ = some (.int .i64 0) := HM4.out.cellAt 5 rfl x RX.out
  have r2 := HM4.out.freeAt 5 rfl x
  have M5 := HM4.out.setRow 5 rfl x (.int .i64 1)
  go_wp2_with fail
  generalize hw : w4.setCell ⟨gR, x, none⟩ (.int .i64 1) = w5 at M5 ⊢
  have t0 : w5.cell? ⟨s, 0, none⟩ = some (.slice (some ⟨gO, 0, none⟩) N cO) := M5.cell 1 rfl 0 rfl
  have t1 : w5.cell? ⟨s, 2, none⟩ = some (.slice (some ⟨gH, 0, none⟩) N cH) := M5.cell 1 rfl 2 rfl
  have u0 : w5.cell? ⟨nb, 0, none⟩ = some (.int .i64 cM.n.kind) := M5.cell 0 rfl 0 rfl
  have u1 : w5.cell? ⟨nb, 1, none⟩ = some (.string cM.n.name) := M5.cell 0 rfl 1 rfl
  have u2 : w5.cell? ⟨nb, 2, none⟩ = some (.slice cM.aa cM.na cM.ca) := M5.cell 0 rfl 2 rfl
  have u3 : w5.cell? ⟨nb, 3, none⟩ = some (.map cM.mf) := M5.cell 0 rfl 3 rfl
  have u4 : w5.cell? ⟨nb, 4, none⟩ = some (.bool cM.n.isOpen) := M5.cell 0 rfl 4 rfl
  have HM5 := Tre.hid M5
  clear M5 hw r0 r1 r2 HM4
  have cS : Cond (fun w' => w'.cell? ⟨s, 0, none⟩ = some (.slice (some ⟨gO, 0, none⟩) N cO) ∧ w'.cell? ⟨s, 2, none⟩ = some (.slice (some ⟨gH, 0, none⟩) N cH) ∧ w'.cell? ⟨nb, 0, none⟩ = some (.int .i64 cM.n.kind) ∧ w'.cell? ⟨nb, 1, none⟩ = some (.string cM.n.name) ∧ w'.cell? ⟨nb, 2, none⟩ = some (.slice cM.aa cM.na cM.ca) ∧ w'.cell? ⟨nb, 3, none⟩ = some (.map cM.mf) ∧ w'.cell? ⟨nb, 4, none⟩ = some (.bool cM.n.isOpen)) := ⟨⟩
  refine cS.keep [15] ?_ (fun hH0 => ?_)
  ·exact ⟨t0, t1, u0, u1, u2, u3, u4⟩
  have HM0 := Tre.hid HM5.out.drew
  generalize hq : World.drew _ = wq0 at HM0 hH0 ⊢
  clear hq HM5 t0 t1 u0 u1 u2 u3 u4
  refine lPq 0 (some 90) (v := ?_) rfl ?_ (keep_of hH0) ?_
  rotate_left
  ·intro w; go_simp <;> with_reducible rfl
  try simp only [Act.put, zqf, zqg, zqh]
  refine lPq 1 (some 91) (v := ?_) rfl ?_ (keep_of hH0) ?_
  rotate_left
  ·intro w; go_simp <;> with_reducible rfl
  try simp only [Act.put, zqf, zqg, zqh]
  refine lPq 2 (some 92) (v := ?_) rfl ?_ (keep_of hH0) ?_
  rotate_left
  ·intro w; go_simp <;> with_reducible rfl
  try simp only [Act.put, zqf, zqg, zqh]
  refine lPq 4 (some 94) (v := ?_) rfl ?_ (keep_of hH0) ?_
  rotate_left
  ·intro w; go_simp <;> with_reducible rfl
  try simp only [Act.put, zqf, zqg, zqh]
  refine lPq 5 (some 95) (v := ?_) rfl ?_ (keep_of hH0) ?_
  rotate_left
  ·intro w; go_simp <;> with_reducible rfl
  try simp only [Act.put, zqf, zqg, zqh]
  refine lPq 6 (some 96) (v := ?_) rfl ?_ (keep_of hH0) ?_
  rotate_left
  ·intro w; go_simp <;> with_reducible rfl
  try simp only [Act.put, zqf, zqg, zqh]
  refine lPq 7 (some 97) (v := ?_) rfl ?_ (keep_of hH0) ?_
  rotate_left
  ·intro w; go_simp <;> with_reducible rfl
  try simp only [Act.put, zqf, zqg, zqh]
  refine lPq 9 (some 99) (v := ?_) rfl ?_ (keep_of hH0) ?_
  rotate_left
  ·intro w; go_simp <;> with_reducible rfl
  try simp only [Act.put, zqf, zqg, zqh]
  refine lPq 10 (some 100) (v := ?_) rfl ?_ (keep_of hH0) ?_
  rotate_left
  ·intro w; go_simp <;> with_reducible rfl
  try simp only [Act.put, zqf, zqg, zqh]
  refine lTq 3 (some 93) (v := ?_) rfl ?_ hH0 ?_
  rotate_left
  ·intro w hSw; (try dsimp only at hSw); go_simp <;> with_reducible rfl
  try simp only [Act.put, zqf, zqg, zqh]
  refine lTq 8 (some 98) (v := ?_) rfl ?_ hH0 ?_
  rotate_left
  ·intro w hSw; (try dsimp only at hSw); go_simp <;> with_reducible rfl
  try simp only [Act.put, zqf, zqg, zqh]
  refine lPq 12 (some 102) (v := ?_) rfl ?_ (keep_of hH0) ?_
  rotate_left
  ·intro w; go_simp <;> with_reducible rfl
  try simp only [Act.put, zqf, zqg, zqh]
  refine lTq 11 (some 101) (v := ?_) rfl ?_ hH0 ?_
  rotate_left
  ·intro w hSw; (try dsimp only at hSw); go_simp <;> with_reducible rfl
  try simp only [Act.put, zqf, zqg, zqh]
  refine lOne 13 (by kernel_rfl) (LStep.op (fun K hK => ?_))
  have k0 : wq0.cell? ⟨gO, y, none⟩ = some (.int .i64 (y : Int)) := HM0.out.cellAt 4 rfl y YO.out
  have f0 := HM0.out.freeAt 4 rfl y
  have MA := HM0.out.setRow 4 rfl y (.int .i64 (x : Int))
  go_simp
  generalize hw : wq0.setCell ⟨gO, y, none⟩ (.int .i64 (x : Int)) = wq1 at MA ⊢
  have HM1 := Tre.hid MA
  have t0 : wq1.cell? ⟨s, 0, none⟩ = some (.slice (some ⟨gO, 0, none⟩) N cO) := MA.cell 1 rfl 0 rfl
  have t1 : wq1.cell? ⟨s, 2, none⟩ = some (.slice (some ⟨gH, 0, none⟩) N cH) := MA.cell 1 rfl 2 rfl
  have u0 : wq1.cell? ⟨nb, 0, none⟩ = some (.int .i64 cM.n.kind) := MA.cell 0 rfl 0 rfl
  have u1 : wq1.cell? ⟨nb, 1, none⟩ = some (.string cM.n.name) := MA.cell 0 rfl 1 rfl
  have u2 : wq1.cell? ⟨nb, 2, none⟩ = some (.slice cM.aa cM.na cM.ca) := MA.cell 0 rfl 2 rfl
  have u3 : wq1.cell? ⟨nb, 3, none⟩ = some (.map cM.mf) := MA.cell 0 rfl 3 rfl
  have u4 : wq1.cell? ⟨nb, 4, none⟩ = some (.bool cM.n.isOpen) := MA.cell 0 rfl 4 rfl
  clear MA hw k0 f0
  refine hK.out _ _ ?_ (fun hH1 => ?_)
  ·exact ⟨t0, t1, u0, u1, u2, u3, u4⟩
  clear hK K hH0
  try simp only [Act.put, zqf, zqg, zqh]
  refine lPq 14 (some 103) (v := ?_) rfl ?_ (keep_of hH1) ?_
  rotate_left
  ·intro w; go_simp <;> with_reducible rfl
  try simp only [Act.put, zqf, zqg, zqh]
  refine lOne 15 (by kernel_rfl) (LFall.op (by kernel_rfl) (fun K hK => ?_))
  clear t0 t1 u0 u1 u2 u3 u4
  have g0 := HM1.out.cellAt 6 rfl _ X0.out
  have g1 := HM1.out.cellAt 6 rfl _ X1.out
  have g2 := HM1.out.cellAt 6 rfl _ X2.out
  have g3 := HM1.out.cellAt 6 rfl _ X3.out
  have g4 := HM1.out.cellAt 6 rfl _ X4.out
  have f0 := HM1.out.freeAt 6 rfl (x * 5)
  have f1 := HM1.out.freeAt 6 rfl (x * 5 + 1)
  have f2 := HM1.out.freeAt 6 rfl (x * 5 + 2)
  have f3 := HM1.out.freeAt 6 rfl (x * 5 + 3)
  have f4 := HM1.out.freeAt 6 rfl (x * 5 + 4)
  have M6 := (((((HM1.out.setRow 6 rfl (x * 5) (.int .i64 cM.n.kind)).setRow 6 rfl (x * 5 + 1) (.string cM.n.name)).setRow 6 rfl (x * 5 + 2) (.slice cM.aa cM.na cM.ca)).setRow 6 rfl (x * 5 + 3) (.map cM.mf)).setRow 6 rfl (x * 5 + 4) (.bool cM.n.isOpen))
  go_simp
  generalize hw : (((((wq1.setCell ⟨gH, x * 5, none⟩ (.int .i64 cM.n.kind)).setCell ⟨gH, x * 5 + 1, none⟩ (.string cM.n.name)).setCell ⟨gH, x * 5 + 2, none⟩ (.slice cM.aa cM.na cM.ca)).setCell ⟨gH, x * 5 + 3, none⟩ (.map cM.mf)).setCell ⟨gH, x * 5 + 4, none⟩ (.bool cM.n.isOpen)) = wq3 at M6 ⊢
  have HM3 := Tre.hid M6
  clear M6 hw g0 g1 g2 g3 g4 f0 f1 f2 f3 f4
  refine hK.out _ _ ?_
  clear hK K hH1
  try simp only [Act.put, zqf, zqg, zqh]
  refine lDone (by kernel_rfl) ?_
  go_wp2_with fail
  go_ret
  exact ⟨rfl, m, new, a1, c1, cM, HP.out, hcMM.out, HM3.out.del 0⟩
end Go.Proofs.YtlkfhbmjemjohaaGreatDoor.sol
