/- sub: what a claim leads to. -/
import Derived.Test.YtoieknnnadgfpaaGreatDoorB09
set_option linter.unusedVariables false
namespace Go.Tre
def FolN (X Y : Tre.Node) (t : Bool) : Prop := X.kind = Y.kind ∧ X.name = Y.name ∧ (X.kind = 3 → (t = true → ∀ s ∈ X.labels, s ∈ Y.labels) ∧ (t = false → ∀ s ∈ Y.labels, s ∈ X.labels))
def folL (X Y : Tre.Node) (xs ys : List Nat) (t : Bool) : List Claim :=
 if X.kind = 3 then (if t then objP X.labels Y.labels xs ys else objP Y.labels X.labels ys xs).map (mkC t) else (List.range xs.length).map fun i => (xs.getD i 0, ys.getD i 0, turnB X.name i t)
theorem folL_obj {X Y : Tre.Node} {xs ys : List Nat} {t : Bool} (h : X.kind = 3) : folL X Y xs ys t = (if t then objP X.labels Y.labels xs ys else objP Y.labels X.labels ys xs).map (mkC t) := if_pos h
theorem folL_con {X Y : Tre.Node} {xs ys : List Nat} {t : Bool} (h : ¬ X.kind = 3) : folL X Y xs ys t = (List.range xs.length).map fun i => (xs.getD i 0, ys.getD i 0, turnB X.name i t) := if_neg h
end Go.Tre
namespace Go.Proofs.YtoieknnnadgfpaaGreatDoor.gr
open Go.RowKit Go.Shelf Go.Maps Go.Tre lex
theorem nrow3 {w : World} {a : Option Addr} {c n : Nat} {L : List Value} (h : w.ownsRow 0 85 3 (.slice a n c) n L) : Row w 3 a n L := by
 obtain ⟨a', c', e, _, r⟩ := row_read h
 cases e
 exact r
set_option maxRecDepth 100000 in
set_option maxHeartbeats 16000000 in
theorem follows_node (X Y : Tre.Node) (ax ay lx ly : Option Addr) (cx cy dx dy : Nat) (xs ys : List Nat) (t : Bool) (a b n m bP b1 o1 cg b2 o2 ch : Nat) (w : World)
  (p0 : w.cell? ⟨bP, 0, none⟩ = some (.slice (some ⟨b1, o1, none⟩) n cg)) (p2 : w.cell? ⟨bP, 2, none⟩ = some (.slice (some ⟨b2, o2, none⟩) m ch)) (ha : a < n) (hb : b < m)
  (x0 : w.cell? ⟨b1, o1 + a * 5, none⟩ = some (.int .i64 X.kind)) (x1 : w.cell? ⟨b1, o1 + a * 5 + 1, none⟩ = some (.string X.name)) (x2 : w.cell? ⟨b1, o1 + a * 5 + 2, none⟩ = some (.slice ax X.args.length cx)) (x3 : w.cell? ⟨b1, o1 + a * 5 + 3, none⟩ = some (.slice lx X.labels.length dx)) (x4 : w.cell? ⟨b1, o1 + a * 5 + 4, none⟩ = some (.bool X.isOpen))
  (y0 : w.cell? ⟨b2, o2 + b * 5, none⟩ = some (.int .i64 Y.kind)) (y1 : w.cell? ⟨b2, o2 + b * 5 + 1, none⟩ = some (.string Y.name)) (y2 : w.cell? ⟨b2, o2 + b * 5 + 2, none⟩ = some (.slice ay Y.args.length cy)) (y3 : w.cell? ⟨b2, o2 + b * 5 + 3, none⟩ = some (.slice ly Y.labels.length dy)) (y4 : w.cell? ⟨b2, o2 + b * 5 + 4, none⟩ = some (.bool Y.isOpen))
  (hxa : IntsAt w ax X.args) (hxs : StrsAt w lx X.labels) (hya : IntsAt w ay Y.args) (hys : StrsAt w ly Y.labels) (hxe : X.args = xs.map fun k : Nat => (k : Int)) (hye : Y.args = ys.map fun k : Nat => (k : Int))
  (h3x : X.kind = 3 → X.labels.length = X.args.length ∧ rising X.labels = true) (h3y : Y.kind = 3 → Y.labels.length = Y.args.length ∧ rising Y.labels = true) (h2 : X.kind = Y.kind → X.name = Y.name → X.kind ≠ 3 → X.args.length = Y.args.length) (har : X.kind ≠ 3 → X.name = arrowB → X.args.length = 2)
  (bx : X.args.length ≤ 2097152) (by_ : Y.args.length ≤ 2097152) :
  Calls Tryz.prog 37 #[.pointer (some ⟨bP, 0, none⟩), .agg #[.int .i64 (a : Int), .int .i64 (b : Int), .bool t]] w fun e w' =>
   (∃ v l, e = .returned (.tuple #[v, .bool true]) ∧ FolN X Y t ∧ l = folL X Y xs ys t ∧ Mem w w' [rowR 85 3 v l.length (ccells l)]) ∨
   (∃ v, e = .returned (.tuple #[v, .bool false]) ∧ ¬ FolN X Y t ∧ Below w.heap.size w w') := by
 have HM0 := Tre.hid ((Mem.nil w).allocR #[.int .i64 (a : Int), .int .i64 (b : Int), .bool t] 85)
 have HP0 := Tre.hid p0
 have HP2 := Tre.hid p2
 have X0 := Tre.hid x0
 have X1 := Tre.hid x1
 have X2 := Tre.hid x2
 have X3 := Tre.hid x3
 have X4 := Tre.hid x4
 have Y0 := Tre.hid y0
 have Y1 := Tre.hid y1
 have Y2 := Tre.hid y2
 have Y3 := Tre.hid y3
 have Y4 := Tre.hid y4
 have HXA := Tre.hid hxa
 have HXS := Tre.hid hxs
 have HYA := Tre.hid hya
 have HYS := Tre.hid hys
 have HXE := Tre.hid hxe
 have HYE := Tre.hid hye
 have H3X := Tre.hid h3x
 have H3Y := Tre.hid h3y
 have H2 := Tre.hid h2
 have HAR := Tre.hid har
 have HXL : Hid (xs.length = X.args.length) := by show _ = _; rw [hxe, List.length_map]
 have HYL : Hid (ys.length = Y.args.length) := by show _ = _; rw [hye, List.length_map]
 have m1 : (0 : Int) ≤ (a : Int) := by omega
 have m2 : (a : Int) < (n : Int) := by omega
 have m3 : (0 : Int) ≤ (b : Int) := by omega
 have m4 : (b : Int) < (m : Int) := by omega
 obtain ⟨ji, K1, K2, K3, K4⟩ := info_parts infoSC
 have L1 := Tre.hid K1
 have L2 := Tre.hid K2
 have L3 := Tre.hid K3
 have L4 := Tre.hid K4
 clear p0 p2 x0 x1 x2 x3 x4 y0 y1 y2 y3 y4 hxa hxs hya hys hxe hye h3x h3y h2 har ha hb K1 K2 K3 K4
 go_enter Tryz.func37, Tryz.ntmps37
 go_upto_region 1 with fail
 have cS : Cond (fun w' => w'.cell? ⟨bP, 0, none⟩ = some (.slice (some ⟨b1, o1, none⟩) n cg) ∧ w'.cell? ⟨bP, 2, none⟩ = some (.slice (some ⟨b2, o2, none⟩) m ch) ∧ w'.cell? ⟨w.heap.size, 0, none⟩ = some (.int .i64 (a : Int)) ∧ w'.cell? ⟨w.heap.size, 1, none⟩ = some (.int .i64 (b : Int)) ∧ w'.cell? ⟨b1, o1 + a * 5, none⟩ = some (.int .i64 X.kind) ∧ w'.cell? ⟨b1, o1 + a * 5 + 1, none⟩ = some (.string X.name) ∧ w'.cell? ⟨b1, o1 + a * 5 + 2, none⟩ = some (.slice ax X.args.length cx) ∧ w'.cell? ⟨b1, o1 + a * 5 + 3, none⟩ = some (.slice lx X.labels.length dx) ∧ w'.cell? ⟨b1, o1 + a * 5 + 4, none⟩ = some (.bool X.isOpen) ∧ w'.cell? ⟨b2, o2 + b * 5, none⟩ = some (.int .i64 Y.kind) ∧ w'.cell? ⟨b2, o2 + b * 5 + 1, none⟩ = some (.string Y.name) ∧ w'.cell? ⟨b2, o2 + b * 5 + 2, none⟩ = some (.slice ay Y.args.length cy) ∧ w'.cell? ⟨b2, o2 + b * 5 + 3, none⟩ = some (.slice ly Y.labels.length dy) ∧ w'.cell? ⟨b2, o2 + b * 5 + 4, none⟩ = some (.bool Y.isOpen)) := ⟨⟩
 refine cS.keep [21] ?_ (fun hH => ?_)
 ·exact ⟨cell_below HM0.out.drew.below HP0.out, cell_below HM0.out.drew.below HP2.out, HM0.out.drew.cell 0 rfl 0 rfl, HM0.out.drew.cell 0 rfl 1 rfl, cell_below HM0.out.drew.below X0.out, cell_below HM0.out.drew.below X1.out, cell_below HM0.out.drew.below X2.out, cell_below HM0.out.drew.below X3.out, cell_below HM0.out.drew.below X4.out, cell_below HM0.out.drew.below Y0.out, cell_below HM0.out.drew.below Y1.out, cell_below HM0.out.drew.below Y2.out, cell_below HM0.out.drew.below Y3.out, cell_below HM0.out.drew.below Y4.out⟩
 have HC := Tre.hid HM0.out.drew
 generalize hq : World.drew _ = wq0 at HC hH ⊢
 clear hq
 refine lPv 0 (some 10) (.pointer (some ⟨bP, 0, none⟩)) (keep_of hH) ?_
 refine lPv 1 (some 11) (.pointer (some ⟨bP, 0, none⟩)) (keep_of hH) ?_
 refine lPv 2 (some 12) (.pointer (some ⟨bP, 0, none⟩)) (keep_of hH) ?_
 refine lPv 3 (some 13) (.pointer (some ⟨bP, 0, none⟩)) (keep_of hH) ?_
 try simp only [Act.put, zqf, zqg, zqh]
 refine lTq 4 (some 14) (v := ?_) rfl ?_ hH ?_
 rotate_left
 ·intro w hSw; (try dsimp only at hSw); go_simp <;> with_reducible rfl
 try simp only [Act.put, zqf, zqg, zqh]
 refine lPv 5 (some 15) (.pointer (some ⟨w.heap.size, 0, none⟩)) (keep_of hH) ?_
 try simp only [Act.put, zqf, zqg, zqh]
 refine lTq 6 (some 16) (v := ?_) rfl ?_ hH ?_
 rotate_left
 ·intro w hSw; (try dsimp only at hSw); go_simp <;> with_reducible rfl
 try simp only [Act.put, zqf, zqg, zqh]
 try simp only [Act.put, zqf, zqg, zqh]
 refine lPq 7 (some 17) (v := ?_) rfl ?_ (keep_of hH) ?_
 rotate_left
 ·intro w; go_simp <;> with_reducible rfl
 try simp only [Act.put, zqf, zqg, zqh]
 refine lTq 8 (some 18) (v := ?_) rfl ?_ hH ?_
 rotate_left
 ·intro w hSw; (try dsimp only at hSw); go_simp <;> with_reducible rfl
 try simp only [Act.put, zqf, zqg, zqh]
 refine lPv 9 (some 19) (.pointer (some ⟨bP, 0, none⟩)) (keep_of hH) ?_
 refine lPv 10 (some 20) (.pointer (some ⟨bP, 0, none⟩)) (keep_of hH) ?_
 refine lPv 11 (some 21) (.pointer (some ⟨bP, 2, none⟩)) (keep_of hH) ?_
 refine lPv 12 (some 22) (.pointer (some ⟨bP, 2, none⟩)) (keep_of hH) ?_
 try simp only [Act.put, zqf, zqg, zqh]
 refine lTq 13 (some 23) (v := ?_) rfl ?_ hH ?_
 rotate_left
 ·intro w hSw; (try dsimp only at hSw); go_simp <;> with_reducible rfl
 try simp only [Act.put, zqf, zqg, zqh]
 refine lPv 14 (some 24) (.pointer (some ⟨w.heap.size, 1, none⟩)) (keep_of hH) ?_
 try simp only [Act.put, zqf, zqg, zqh]
 refine lTq 15 (some 25) (v := ?_) rfl ?_ hH ?_
 rotate_left
 ·intro w hSw; (try dsimp only at hSw); go_simp <;> with_reducible rfl
 try simp only [Act.put, zqf, zqg, zqh]
 try simp only [Act.put, zqf, zqg, zqh]
 refine lPq 16 (some 26) (v := ?_) rfl ?_ (keep_of hH) ?_
 rotate_left
 ·intro w; go_simp <;> with_reducible rfl
 try simp only [Act.put, zqf, zqg, zqh]
 refine lTq 17 (some 27) (v := ?_) rfl ?_ hH ?_
 rotate_left
 ·intro w hSw; (try dsimp only at hSw); go_simp <;> with_reducible rfl
 try simp only [Act.put, zqf, zqg, zqh]
 try simp only [Act.put, zqf, zqg, zqh]
 refine with_G (G0 := wpAnyL _ _ _ _ _ _) ?_
 intro G hG a0 hA
 have Z0 : Kept (∀ (b6 : Nat) (b7 : Nat) (wq : World), Hid (Mem w wq [cellsR b6 33 #[.int .i64 X.kind, .string X.name, .slice ax X.args.length cx, .slice lx X.labels.length dx, .bool X.isOpen], cellsR b7 33 #[.int .i64 Y.kind, .string Y.name, .slice ay Y.args.length cy, .slice ly Y.labels.length dy, .bool Y.isOpen], cellsR w.heap.size 85 #[.int .i64 (a : Int), .int .i64 (b : Int), .bool t]]) → G 0 (bt 22 4194303) ((a0.put (some 6) (.pointer (some ⟨b6, 0, none⟩))).put (some 7) (.pointer (some ⟨b7, 0, none⟩))) wq) := ⟨by
  intro b6 b7 wq HC
  refine into_G hG ?_
  rw [hA.out]
  try simp only [Act.put, zqf, zqg, zqh]
  refine lDone (by kernel_rfl) ?_
  clear hA hG
  have HQ := HC
  clear HC
  obtain ⟨u0, u1, u2, u3, u4⟩ := five HQ.out 0 rfl
  obtain ⟨v0, v1, v2, v3, v4⟩ := five HQ.out 1 rfl
  by_cases hk : X.kind = Y.kind
  ·by_cases hn : X.name = Y.name
   ·have e1 : (X.kind != Y.kind) = false := by simp [hk]
    have e2 : (X.name.toList == Y.name.toList) = true := by rw [str_eq]; simp [hn]
    by_cases h3 : X.kind = 3
    ·have e4 : (X.kind == 3) = true := by simp [h3]
     have hx3 := H3X.out h3
     have hy3 := H3Y.out (by rw [← hk]; exact h3)
     have H3 := Tre.hid h3
     have HK := Tre.hid hk
     have HN := Tre.hid hn
     have z0 := HQ.out.cell 2 rfl 0 rfl
     have z1 := HQ.out.cell 2 rfl 1 rfl
     have z2 := HQ.out.cell 2 rfl 2 rfl
     cases t with
     | false =>
      have HOB := Tre.hid (objects_no X Y ax ay lx ly cx cy dx dy xs ys (.pointer (some ⟨bP, 0, none⟩)) (.int .i64 (a : Int)) (.int .i64 (b : Int)) wq (HXA.out.below HQ.out.below) (HXS.out.below HQ.out.below) (HYA.out.below HQ.out.below) (HYS.out.below HQ.out.below) HXE.out HYE.out hx3.1 hy3.1 hx3.2 bx by_)
      clear hk hn h3 hx3 hy3
      go_wp2_with fail
      refine HOB.out.mono ?_
      rintro e w2 (⟨v, rfl, hall, mv⟩ | ⟨v, rfl, hno, bv⟩)
      ·have HALL := Tre.hid hall
       have HMV := Tre.hid ((((HQ.out.call mv).del 1).del 1).del 1)
       clear hall mv HOB HQ
       go_wp2_with fail
       go_ret2
       exact .inl ⟨v, (objP Y.labels X.labels ys xs).map (mkC false), rfl, ⟨HK.out, HN.out, fun _ => ⟨fun h => (by cases h), fun _ => HALL.out⟩⟩, (folL_obj H3.out).symm, by rw [List.length_map]; exact HMV.out⟩
      ·have HNO := Tre.hid hno
       have HB := Tre.hid (HQ.out.quiet bv).below
       clear hno bv HOB HQ
       go_wp2_with fail
       go_ret2
       exact .inr ⟨v, rfl, fun h => HNO.out ((h.2.2 H3.out).2 rfl), HB.out⟩
     | true =>
      have HOB := Tre.hid (objects_yes X Y ax ay lx ly cx cy dx dy xs ys (.pointer (some ⟨bP, 0, none⟩)) (.int .i64 (a : Int)) (.int .i64 (b : Int)) wq (HXA.out.below HQ.out.below) (HXS.out.below HQ.out.below) (HYA.out.below HQ.out.below) (HYS.out.below HQ.out.below) HXE.out HYE.out hx3.1 hy3.1 hy3.2 bx by_)
      clear hk hn h3 hx3 hy3
      go_wp2_with fail
      refine HOB.out.mono ?_
      rintro e w2 (⟨v, rfl, hall, mv⟩ | ⟨v, rfl, hno, bv⟩)
      ·have HALL := Tre.hid hall
       have HMV := Tre.hid ((((HQ.out.call mv).del 1).del 1).del 1)
       clear hall mv HOB HQ
       go_wp2_with fail
       go_ret2
       exact .inl ⟨v, (objP X.labels Y.labels xs ys).map (mkC true), rfl, ⟨HK.out, HN.out, fun _ => ⟨fun _ => HALL.out, fun h => (by cases h)⟩⟩, (folL_obj H3.out).symm, by rw [List.length_map]; exact HMV.out⟩
      ·have HNO := Tre.hid hno
       have HB := Tre.hid (HQ.out.quiet bv).below
       clear hno bv HOB HQ
       go_wp2_with fail
       go_ret2
       exact .inr ⟨v, rfl, fun h => HNO.out ((h.2.2 H3.out).1 rfl), HB.out⟩
    ·have e4 : (X.kind == 3) = false := by simp [h3]
     have HOK : Hid (FolN X Y t) := ⟨hk, hn, fun h => absurd h h3⟩
     have hxy := H2.out hk hn h3
     by_cases hna : X.name = arrowB
     ·have hx2 := HAR.out h3 hna
      obtain ⟨x0, x1, rfl⟩ : ∃ x0 x1, xs = [x0, x1] := by
       have := HXL.out
       rw [hx2] at this
       match xs, this with
       | [p, q], _ => exact ⟨p, q, rfl⟩
      obtain ⟨y0, y1, rfl⟩ : ∃ y0 y1, ys = [y0, y1] := by
       have := HYL.out
       rw [← hxy, hx2] at this
       match ys, this with
       | [p, q], _ => exact ⟨p, q, rfl⟩
      have e5 : (X.name.toList == [45, 62]) = true := by rw [hna]; decide +kernel
      have HLL : Hid ([(x0, y0, !t), (x1, y1, t)] = folL X Y [x0, x1] [y0, y1] t) := by show _ = _; rw [folL_con h3, hna]; rfl
      obtain ⟨bx, ox, rfl, hc0⟩ := HXA.out.at_ 0 (.int .i64 (x0 : Int)) (by rw [HXE.out]; rfl)
      obtain ⟨by', oy, rfl, hd0⟩ := HYA.out.at_ 0 (.int .i64 (y0 : Int)) (by rw [HYE.out]; rfl)
      have HCX : Hid (w.cell? ⟨bx, ox, none⟩ = some (.int .i64 (x0 : Int))) := hc0
      have HCY : Hid (w.cell? ⟨by', oy, none⟩ = some (.int .i64 (y0 : Int))) := hd0
      have HCX1 : Hid (w.cell? ⟨bx, ox + 1, none⟩ = some (.int .i64 (x1 : Int))) := by
       obtain ⟨b', o', e, hc⟩ := HXA.out.at_ 1 (.int .i64 (x1 : Int)) (by rw [HXE.out]; rfl)
       cases e; exact hc
      have HCY1 : Hid (w.cell? ⟨by', oy + 1, none⟩ = some (.int .i64 (y1 : Int))) := by
       obtain ⟨b', o', e, hc⟩ := HYA.out.at_ 1 (.int .i64 (y1 : Int)) (by rw [HYE.out]; rfl)
       cases e; exact hc
      have r1 : 0 < X.args.length := by omega
      have r2 : 1 < X.args.length := by omega
      have r3 : 0 < Y.args.length := by omega
      have r4 : 1 < Y.args.length := by omega
      have q1 : (0 : Int) < (X.args.length : Int) := by omega
      have q2 : (1 : Int) < (X.args.length : Int) := by omega
      have q3 : (0 : Int) < (Y.args.length : Int) := by omega
      have q4 : (1 : Int) < (Y.args.length : Int) := by omega
      have HQ2 := Tre.hid (HQ.out.addNil 85 3)
      clear hk hn h3 hna hx2 hxy hc0 hd0 HQ
      go_upto_region 8 with fail
      clear u0 u1 u2 u3 u4 v0 v1 v2 v3 v4
      have cS : Cond (fun w' => w'.cell? ⟨b6, 2, none⟩ = some (.slice (some ⟨bx, ox, none⟩) X.args.length cx) ∧ w'.cell? ⟨b7, 2, none⟩ = some (.slice (some ⟨by', oy, none⟩) Y.args.length cy) ∧ w'.cell? ⟨w.heap.size, 2, none⟩ = some (.bool t) ∧ w'.cell? ⟨bx, ox, none⟩ = some (.int .i64 (x0 : Int)) ∧ w'.cell? ⟨by', oy, none⟩ = some (.int .i64 (y0 : Int))) := ⟨⟩
      refine cS.keep [14] ?_ (fun hH => ?_)
      ·exact ⟨HQ2.out.drew.cell 1 rfl 2 rfl, HQ2.out.drew.cell 2 rfl 2 rfl, HQ2.out.drew.cell 3 rfl 2 rfl, cell_below HQ2.out.drew.below HCX.out, cell_below HQ2.out.drew.below HCY.out⟩
      have HC := Tre.hid HQ2.out.drew
      generalize hq : World.drew _ = wq0 at HC hH ⊢
      clear hq
      refine lPv 0 (some 55) (.slice none 0 0) (keep_of hH) ?_
      refine lPv 1 (some 56) (.pointer (some ⟨b6, 2, none⟩)) (keep_of hH) ?_
      try simp only [Act.put, zqf, zqg, zqh]
      refine lTq 2 (some 57) (v := ?_) rfl ?_ hH ?_
      rotate_left
      ·intro w hSw; (try dsimp only at hSw); go_simp <;> with_reducible rfl
      try simp only [Act.put, zqf, zqg, zqh]
      try simp only [Act.put, zqf, zqg, zqh]
      refine lPq 3 (some 58) (v := ?_) rfl ?_ (keep_of hH) ?_
      rotate_left
      ·intro w; go_simp <;> with_reducible rfl
      try simp only [Act.put, zqf, zqg, zqh]
      refine lTq 4 (some 59) (v := ?_) rfl ?_ hH ?_
      rotate_left
      ·intro w hSw; (try dsimp only at hSw); go_simp <;> with_reducible rfl
      try simp only [Act.put, zqf, zqg, zqh]
      refine lPv 5 (some 60) (.pointer (some ⟨b7, 2, none⟩)) (keep_of hH) ?_
      try simp only [Act.put, zqf, zqg, zqh]
      refine lTq 6 (some 61) (v := ?_) rfl ?_ hH ?_
      rotate_left
      ·intro w hSw; (try dsimp only at hSw); go_simp <;> with_reducible rfl
      try simp only [Act.put, zqf, zqg, zqh]
      try simp only [Act.put, zqf, zqg, zqh]
      refine lPq 7 (some 62) (v := ?_) rfl ?_ (keep_of hH) ?_
      rotate_left
      ·intro w; go_simp <;> with_reducible rfl
      try simp only [Act.put, zqf, zqg, zqh]
      refine lTq 8 (some 63) (v := ?_) rfl ?_ hH ?_
      rotate_left
      ·intro w hSw; (try dsimp only at hSw); go_simp <;> with_reducible rfl
      try simp only [Act.put, zqf, zqg, zqh]
      refine lPv 9 (some 64) (.pointer (some ⟨w.heap.size, 2, none⟩)) (keep_of hH) ?_
      try simp only [Act.put, zqf, zqg, zqh]
      refine lTq 10 (some 65) (v := ?_) rfl ?_ hH ?_
      rotate_left
      ·intro w hSw; (try dsimp only at hSw); go_simp <;> with_reducible rfl
      try simp only [Act.put, zqf, zqg, zqh]
      refine lPv 11 (some 66) (.bool (!t)) (keep_of hH) ?_
      refine lPv 12 (some 67) (.agg #[.int .i64 (x0 : Int), .int .i64 (y0 : Int), .bool (!t)]) (keep_of hH) ?_
      try simp only [Act.put, zqf, zqg, zqh]
      refine with_G (G0 := wpAnyL _ _ _ _ _ _) ?_
      intro G hG a0 hA
      have Z0 : Kept (∀ (b68 : Nat) (a1 : Option Addr) (c1 : Nat) (wq : World), Hid (Mem w wq [rowR 85 3 (.slice a1 1 c1) 1 ([] ++ [.int .i64 (x0 : Int), .int .i64 (y0 : Int), .bool (!t)]), cellsR b6 33 #[.int .i64 X.kind, .string X.name, .slice (some ⟨bx, ox, none⟩) X.args.length cx, .slice lx X.labels.length dx, .bool X.isOpen], cellsR b7 33 #[.int .i64 Y.kind, .string Y.name, .slice (some ⟨by', oy, none⟩) Y.args.length cy, .slice ly Y.labels.length dy, .bool Y.isOpen], cellsR w.heap.size 85 #[.int .i64 (a : Int), .int .i64 (b : Int), .bool t]]) → G 0 (bt 16 65535) (((a0.put (some 68) (.slice (some ⟨b68, 0, none⟩) 1 1)).put (some 69) (.slice a1 1 c1)).put (some 8) (.slice a1 1 c1)) wq) := ⟨by
       intro b68 a1 c1 wq HC
       refine into_G hG ?_
       rw [hA.out]
       try simp only [Act.put, zqf, zqg, zqh]
       refine lDone (by kernel_rfl) ?_
       clear hA hG
       have HQ2 := HC
       clear HC
       have HCX := HCX1
       have HCY := HCY1
       go_upto_region 9 with fail
       have cS : Cond (fun w' => w'.cell? ⟨b6, 2, none⟩ = some (.slice (some ⟨bx, ox, none⟩) X.args.length cx) ∧ w'.cell? ⟨b7, 2, none⟩ = some (.slice (some ⟨by', oy, none⟩) Y.args.length cy) ∧ w'.cell? ⟨w.heap.size, 2, none⟩ = some (.bool t) ∧ w'.cell? ⟨bx, ox + 1, none⟩ = some (.int .i64 (x1 : Int)) ∧ w'.cell? ⟨by', oy + 1, none⟩ = some (.int .i64 (y1 : Int))) := ⟨⟩
       refine cS.keep [13] ?_ (fun hH => ?_)
       ·exact ⟨HQ2.out.drew.cell 1 rfl 2 rfl, HQ2.out.drew.cell 2 rfl 2 rfl, HQ2.out.drew.cell 3 rfl 2 rfl, cell_below HQ2.out.drew.below HCX.out, cell_below HQ2.out.drew.below HCY.out⟩
       have HC := Tre.hid HQ2.out.drew
       generalize hq : World.drew _ = wq0 at HC hH ⊢
       clear hq
       refine lPv 0 (some 70) (.slice a1 1 c1) (keep_of hH) ?_
       refine lPv 1 (some 71) (.pointer (some ⟨b6, 2, none⟩)) (keep_of hH) ?_
       try simp only [Act.put, zqf, zqg, zqh]
       refine lTq 2 (some 72) (v := ?_) rfl ?_ hH ?_
       rotate_left
       ·intro w hSw; (try dsimp only at hSw); go_simp <;> with_reducible rfl
       try simp only [Act.put, zqf, zqg, zqh]
       try simp only [Act.put, zqf, zqg, zqh]
       refine lPq 3 (some 73) (v := ?_) rfl ?_ (keep_of hH) ?_
       rotate_left
       ·intro w; go_simp <;> with_reducible rfl
       try simp only [Act.put, zqf, zqg, zqh]
       refine lTq 4 (some 74) (v := ?_) rfl ?_ hH ?_
       rotate_left
       ·intro w hSw; (try dsimp only at hSw); go_simp <;> with_reducible rfl
       try simp only [Act.put, zqf, zqg, zqh]
       refine lPv 5 (some 75) (.pointer (some ⟨b7, 2, none⟩)) (keep_of hH) ?_
       try simp only [Act.put, zqf, zqg, zqh]
       refine lTq 6 (some 76) (v := ?_) rfl ?_ hH ?_
       rotate_left
       ·intro w hSw; (try dsimp only at hSw); go_simp <;> with_reducible rfl
       try simp only [Act.put, zqf, zqg, zqh]
       try simp only [Act.put, zqf, zqg, zqh]
       refine lPq 7 (some 77) (v := ?_) rfl ?_ (keep_of hH) ?_
       rotate_left
       ·intro w; go_simp <;> with_reducible rfl
       try simp only [Act.put, zqf, zqg, zqh]
       refine lTq 8 (some 78) (v := ?_) rfl ?_ hH ?_
       rotate_left
       ·intro w hSw; (try dsimp only at hSw); go_simp <;> with_reducible rfl
       try simp only [Act.put, zqf, zqg, zqh]
       refine lPv 9 (some 79) (.pointer (some ⟨w.heap.size, 2, none⟩)) (keep_of hH) ?_
       try simp only [Act.put, zqf, zqg, zqh]
       refine lTq 10 (some 80) (v := ?_) rfl ?_ hH ?_
       rotate_left
       ·intro w hSw; (try dsimp only at hSw); go_simp <;> with_reducible rfl
       try simp only [Act.put, zqf, zqg, zqh]
       refine lPv 11 (some 81) (.agg #[.int .i64 (x1 : Int), .int .i64 (y1 : Int), .bool t]) (keep_of hH) ?_
       try simp only [Act.put, zqf, zqg, zqh]
       refine with_G (G0 := wpAnyL _ _ _ _ _ _) ?_
       intro G hG a0 hA
       have Z0 : Kept (∀ (b82 : Nat) (a2 : Option Addr) (c2 : Nat) (wq : World), Hid (Mem w wq [rowR 85 3 (.slice a2 2 c2) 2 ([] ++ [.int .i64 (x0 : Int), .int .i64 (y0 : Int), .bool (!t)] ++ [.int .i64 (x1 : Int), .int .i64 (y1 : Int), .bool t]), cellsR b6 33 #[.int .i64 X.kind, .string X.name, .slice (some ⟨bx, ox, none⟩) X.args.length cx, .slice lx X.labels.length dx, .bool X.isOpen], cellsR b7 33 #[.int .i64 Y.kind, .string Y.name, .slice (some ⟨by', oy, none⟩) Y.args.length cy, .slice ly Y.labels.length dy, .bool Y.isOpen], cellsR w.heap.size 85 #[.int .i64 (a : Int), .int .i64 (b : Int), .bool t]]) → G 0 (bt 16 65535) ((((a0.put (some 82) (.slice (some ⟨b82, 0, none⟩) 1 1)).put (some 83) (.slice a2 2 c2)).put (some 4) (.slice a2 2 c2)).put (some 5) (.bool true)) wq) := ⟨by
        intro b82 a2 c2 wq HC
        refine into_G hG ?_
        rw [hA.out]
        try simp only [Act.put, zqf, zqg, zqh]
        refine lDone (by kernel_rfl) ?_
        clear hA hG
        go_wp2_with fail
        go_ret2
        exact .inl ⟨_, _, rfl, HOK.out, HLL.out, ((HC.out.del 1).del 1).del 1⟩
       ⟩
       have Z1 : Kept (∀ (b82 : Nat) (wq : World), Hid (Mem w wq [rowR 85 3 (.slice (some ⟨b82, 0, none⟩) 1 1) 1 [.int .i64 (x1 : Int), .int .i64 (y1 : Int), .bool t], rowR 85 3 (.slice a1 1 c1) 1 ([] ++ [.int .i64 (x0 : Int), .int .i64 (y0 : Int), .bool (!t)]), cellsR b6 33 #[.int .i64 X.kind, .string X.name, .slice (some ⟨bx, ox, none⟩) X.args.length cx, .slice lx X.labels.length dx, .bool X.isOpen], cellsR b7 33 #[.int .i64 Y.kind, .string Y.name, .slice (some ⟨by', oy, none⟩) Y.args.length cy, .slice ly Y.labels.length dy, .bool Y.isOpen], cellsR w.heap.size 85 #[.int .i64 (a : Int), .int .i64 (b : Int), .bool t]]) → G 3 (bt 16 8191) (a0.put (some 82) (.slice (some ⟨b82, 0, none⟩) 1 1)) wq) := ⟨by
        intro b82 wq HC
        refine into_G hG ?_
        rw [hA.out]
        have hH := cS.is (w := wq) (⟨HC.out.cell 2 rfl 2 rfl, HC.out.cell 3 rfl 2 rfl, HC.out.cell 4 rfl 2 rfl, cell_below HC.out.below HCX.out, cell_below HC.out.below HCY.out⟩)
        refine lOne 13 (by kernel_rfl) ?_
        ·
         refine LFall.app (by kernel_rfl) (some 83) (.tmp 70) (.tmp 82) 86 (by kernel_rfl) 85 ji _ 3 24 Tryz.underlying86 L1.out L2.out L3.out L4.out rfl (by omega) (.slice a1 1 c1) 1 ([] ++ [.int .i64 (x0 : Int), .int .i64 (y0 : Int), .bool (!t)]) (by kernel_rfl) (HC.out.row 1 rfl) (some ⟨b82, 0, none⟩) 1 1 [.int .i64 (x1 : Int), .int .i64 (y1 : Int), .bool t] (by kernel_rfl) (nrow3 (HC.out.row 0 rfl)) (by simp [Value.oneCell']) (by unfold maxLen; omega) (by omega) ?_
         intro v' wr hown4 hgrow4 hat4
         have M4 := HC.out.grow 1 rfl hgrow4 hown4 hat4
         obtain ⟨a2, c2, rfl, _⟩ := M4.val 1 rfl
         have HN := Tre.hid (M4.del 0)
         clear M4 hown4 hgrow4 hat4
         refine lPv 14 (some 4) (.slice a2 2 c2) (keep_fell (by kernel_rfl)) ?_
         refine lPv 15 (some 5) (.bool true) (keep_fell (by kernel_rfl)) ?_
         exact outof_G hG (Z0.out b82 a2 c2 wr HN) (by kernel_rfl) (by rw [hA.out]; try kernel_rfl)
       ⟩
       have Z2 : Kept (∀ (wq : World), Hid (Mem w wq [rowR 85 3 (.slice a1 1 c1) 1 ([] ++ [.int .i64 (x0 : Int), .int .i64 (y0 : Int), .bool (!t)]), cellsR b6 33 #[.int .i64 X.kind, .string X.name, .slice (some ⟨bx, ox, none⟩) X.args.length cx, .slice lx X.labels.length dx, .bool X.isOpen], cellsR b7 33 #[.int .i64 Y.kind, .string Y.name, .slice (some ⟨by', oy, none⟩) Y.args.length cy, .slice ly Y.labels.length dy, .bool Y.isOpen], cellsR w.heap.size 85 #[.int .i64 (a : Int), .int .i64 (b : Int), .bool t]]) → G 4 (bt 16 4095) (a0) wq) := ⟨by
        intro  wq HC
        refine into_G hG ?_
        rw [hA.out]
        have hH := cS.is (w := wq) (⟨HC.out.cell 1 rfl 2 rfl, HC.out.cell 2 rfl 2 rfl, HC.out.cell 3 rfl 2 rfl, cell_below HC.out.below HCX.out, cell_below HC.out.below HCY.out⟩)
        refine lOne 12 (by kernel_rfl) ?_
        ·
         have HN := Tre.hid (HC.out.allocRow #[.int .i64 (x1 : Int), .int .i64 (y1 : Int), .bool t] 85 3 1 (by unfold maxLen; omega) rfl)
         have hH2 := cS.is (w := (wq.alloc (.cells #[.int .i64 (x1 : Int), .int .i64 (y1 : Int), .bool t] 85))) (⟨HN.out.cell 2 rfl 2 rfl, HN.out.cell 3 rfl 2 rfl, HN.out.cell 4 rfl 2 rfl, cell_below HN.out.below HCX.out, cell_below HN.out.below HCY.out⟩)
         refine LStep.made (some 82) (.slice (some ⟨wq.heap.size, 0, none⟩) 1 1) _ (by kernel_rfl) (by kernel_rfl) hH2 ?_
         exact outof_G hG (Z1.out wq.heap.size _ HN) (by kernel_rfl) (by rw [hA.out]; try kernel_rfl)
       ⟩
       exact Z2.out  wq0 HC
      ⟩
      have Z1 : Kept (∀ (b68 : Nat) (wq : World), Hid (Mem w wq [rowR 85 3 (.slice (some ⟨b68, 0, none⟩) 1 1) 1 [.int .i64 (x0 : Int), .int .i64 (y0 : Int), .bool (!t)], rowR 85 3 (.slice none 0 0) 0 ([]), cellsR b6 33 #[.int .i64 X.kind, .string X.name, .slice (some ⟨bx, ox, none⟩) X.args.length cx, .slice lx X.labels.length dx, .bool X.isOpen], cellsR b7 33 #[.int .i64 Y.kind, .string Y.name, .slice (some ⟨by', oy, none⟩) Y.args.length cy, .slice ly Y.labels.length dy, .bool Y.isOpen], cellsR w.heap.size 85 #[.int .i64 (a : Int), .int .i64 (b : Int), .bool t]]) → G 2 (bt 16 16383) (a0.put (some 68) (.slice (some ⟨b68, 0, none⟩) 1 1)) wq) := ⟨by
       intro b68 wq HC
       refine into_G hG ?_
       rw [hA.out]
       have hH := cS.is (w := wq) (⟨HC.out.cell 2 rfl 2 rfl, HC.out.cell 3 rfl 2 rfl, HC.out.cell 4 rfl 2 rfl, cell_below HC.out.below HCX.out, cell_below HC.out.below HCY.out⟩)
       refine lOne 14 (by kernel_rfl) ?_
       ·
        refine LFall.app (by kernel_rfl) (some 69) (.tmp 55) (.tmp 68) 86 (by kernel_rfl) 85 ji _ 3 24 Tryz.underlying86 L1.out L2.out L3.out L4.out rfl (by omega) (.slice none 0 0) 0 ([]) (by kernel_rfl) (HC.out.row 1 rfl) (some ⟨b68, 0, none⟩) 1 1 [.int .i64 (x0 : Int), .int .i64 (y0 : Int), .bool (!t)] (by kernel_rfl) (nrow3 (HC.out.row 0 rfl)) (by simp [Value.oneCell']) (by unfold maxLen; omega) (by omega) ?_
        intro v' wr hown4 hgrow4 hat4
        have M4 := HC.out.grow 1 rfl hgrow4 hown4 hat4
        obtain ⟨a1, c1, rfl, _⟩ := M4.val 1 rfl
        have HN := Tre.hid (M4.del 0)
        clear M4 hown4 hgrow4 hat4
        refine lPv 15 (some 8) (.slice a1 1 c1) (keep_fell (by kernel_rfl)) ?_
        exact outof_G hG (Z0.out b68 a1 c1 wr HN) (by kernel_rfl) (by rw [hA.out]; try kernel_rfl)
      ⟩
      have Z2 : Kept (∀ (wq : World), Hid (Mem w wq [rowR 85 3 (.slice none 0 0) 0 ([]), cellsR b6 33 #[.int .i64 X.kind, .string X.name, .slice (some ⟨bx, ox, none⟩) X.args.length cx, .slice lx X.labels.length dx, .bool X.isOpen], cellsR b7 33 #[.int .i64 Y.kind, .string Y.name, .slice (some ⟨by', oy, none⟩) Y.args.length cy, .slice ly Y.labels.length dy, .bool Y.isOpen], cellsR w.heap.size 85 #[.int .i64 (a : Int), .int .i64 (b : Int), .bool t]]) → G 3 (bt 16 8191) (a0) wq) := ⟨by
       intro  wq HC
       refine into_G hG ?_
       rw [hA.out]
       have hH := cS.is (w := wq) (⟨HC.out.cell 1 rfl 2 rfl, HC.out.cell 2 rfl 2 rfl, HC.out.cell 3 rfl 2 rfl, cell_below HC.out.below HCX.out, cell_below HC.out.below HCY.out⟩)
       refine lOne 13 (by kernel_rfl) ?_
       ·
        have HN := Tre.hid (HC.out.allocRow #[.int .i64 (x0 : Int), .int .i64 (y0 : Int), .bool (!t)] 85 3 1 (by unfold maxLen; omega) rfl)
        have hH2 := cS.is (w := (wq.alloc (.cells #[.int .i64 (x0 : Int), .int .i64 (y0 : Int), .bool (!t)] 85))) (⟨HN.out.cell 2 rfl 2 rfl, HN.out.cell 3 rfl 2 rfl, HN.out.cell 4 rfl 2 rfl, cell_below HN.out.below HCX.out, cell_below HN.out.below HCY.out⟩)
        refine LStep.made (some 68) (.slice (some ⟨wq.heap.size, 0, none⟩) 1 1) _ (by kernel_rfl) (by kernel_rfl) hH2 ?_
        exact outof_G hG (Z1.out wq.heap.size _ HN) (by kernel_rfl) (by rw [hA.out]; try kernel_rfl)
      ⟩
      exact Z2.out  wq0 HC
     ·obtain ⟨L, hL⟩ : ∃ L : List Tre.Claim, L = (List.range xs.length).map fun i => (xs.getD i 0, ys.getD i 0, t) := ⟨_, rfl⟩
      have HLD : Hid (L = folL X Y xs ys t) := by
       show _ = _
       rw [folL_con h3, hL]
       refine List.map_congr_left (fun i _ => ?_)
       unfold turnB
       rw [if_neg (fun h => hna h.1)]
      have HLN : Hid (L.length = X.args.length) := by show _ = _; rw [hL, List.length_map, List.length_range, HXL.out]
      have HLA : Hid (∀ i x y, xs[i]? = some x → ys[i]? = some y → L[i]? = some (x, y, t)) := fun i x y h1 h2 => by
       rw [hL, List.getElem?_map, List.getElem?_range (List.getElem?_eq_some_iff.1 h1).1, zqd, List.getD_eq_getElem?_getD, List.getD_eq_getElem?_getD, h1, h2]; rfl
      have HXY := Tre.hid hxy
      have e5 : (X.name.toList == [45, 62]) = false := by
       rw [show ([45, 62] : List UInt8) = arrowB.toList by decide +kernel, str_eq]; simp [hna]
      have HL0 : Hid (Mem w wq [rowR 85 3 (.slice none 0 0) 0 (ccells (L.take 0)), cellsR b6 33 #[.int .i64 X.kind, .string X.name, .slice ax X.args.length cx, .slice lx X.labels.length dx, .bool X.isOpen], cellsR b7 33 #[.int .i64 Y.kind, .string Y.name, .slice ay Y.args.length cy, .slice ly Y.labels.length dy, .bool Y.isOpen], cellsR w.heap.size 85 #[.int .i64 (a : Int), .int .i64 (b : Int), .bool t]]) := HQ.out.addNil 85 3
      clear hk hn h3 hna hxy hL HQ
      go_wp2_with fail
      clear u0 u1 u2 u3 u4 v0 v1 v2 v3 v4
      go_loopw [8, 87] (fun v8 v87 wr => ∃ (i : Nat) (aO : Option Addr) (cO : Nat), i ≤ X.args.length ∧ v8 = .slice aO i cO ∧ v87 = .int .i64 (i : Int) ∧ Hid (Mem w wr [rowR 85 3 (.slice aO i cO) i (ccells (L.take i)), cellsR b6 33 #[.int .i64 X.kind, .string X.name, .slice ax X.args.length cx, .slice lx X.labels.length dx, .bool X.isOpen], cellsR b7 33 #[.int .i64 Y.kind, .string Y.name, .slice ay Y.args.length cy, .slice ly Y.labels.length dy, .bool Y.isOpen], cellsR w.heap.size 85 #[.int .i64 (a : Int), .int .i64 (b : Int), .bool t]]))
       (fun _ v87 _ => X.args.length - (intOf v87).toNat)
      case atStart => exact ⟨0, none, 0, Nat.zero_le _, rfl, rfl, HL0.out⟩
      case round =>
       obtain ⟨i, aO, cO, hi, rfl, rfl, HI⟩ := hrel
       by_cases hlt : i < X.args.length
       ·obtain ⟨xi, hxi⟩ : ∃ x, Hid (xs[i]? = some x) := ⟨_, List.getElem?_eq_getElem (by rw [HXL.out]; exact hlt)⟩
        obtain ⟨yi, hyi⟩ : ∃ x, Hid (ys[i]? = some x) := ⟨_, List.getElem?_eq_getElem (by rw [HYL.out, ← HXY.out]; exact hlt)⟩
        have HZS : Hid (L.take (i + 1) = L.take i ++ [(xi, yi, t)]) := by show _ = _; rw [List.take_add_one, HLA.out i xi yi hxi.out hyi.out]; rfl
        obtain ⟨bx, ox, rfl, hc0⟩ := HXA.out.at_ i (.int .i64 (xi : Int)) (by rw [HXE.out, List.getElem?_map, List.getElem?_map, hxi.out]; rfl)
        obtain ⟨by', oy, rfl, hd0⟩ := HYA.out.at_ i (.int .i64 (yi : Int)) (by rw [HYE.out, List.getElem?_map, List.getElem?_map, hyi.out]; rfl)
        have HCX := Tre.hid hc0
        have HCY := Tre.hid hd0
        have i1 : (0 : Int) ≤ (i : Int) := by omega
        have i2 : (i : Int) < (X.args.length : Int) := by omega
        have i3 : (i : Int) < (Y.args.length : Int) := by rw [← HXY.out]; exact i2
        clear hc0 hd0
        go_upto_region 13 with fail
        have cS : Cond (fun w' => w'.cell? ⟨b6, 2, none⟩ = some (.slice (some ⟨bx, ox, none⟩) X.args.length cx) ∧ w'.cell? ⟨b7, 2, none⟩ = some (.slice (some ⟨by', oy, none⟩) Y.args.length cy) ∧ w'.cell? ⟨w.heap.size, 2, none⟩ = some (.bool t) ∧ w'.cell? ⟨bx, ox + i, none⟩ = some (.int .i64 (xi : Int)) ∧ w'.cell? ⟨by', oy + i, none⟩ = some (.int .i64 (yi : Int))) := ⟨⟩
        refine cS.keep [15] ?_ (fun hH => ?_)
        ·exact ⟨HI.out.drew.cell 1 rfl 2 rfl, HI.out.drew.cell 2 rfl 2 rfl, HI.out.drew.cell 3 rfl 2 rfl, cell_below HI.out.drew.below HCX.out, cell_below HI.out.drew.below HCY.out⟩
        have HC := Tre.hid HI.out.drew
        generalize hq : World.drew _ = wq0 at HC hH ⊢
        clear hq
        refine lPv 0 (some 90) (.slice aO i cO) (keep_of hH) ?_
        refine lPv 1 (some 91) (.pointer (some ⟨b6, 2, none⟩)) (keep_of hH) ?_
        try simp only [Act.put, zqf, zqg, zqh]
        refine lTq 2 (some 92) (v := ?_) rfl ?_ hH ?_
        rotate_left
        ·intro w hSw; (try dsimp only at hSw); go_simp <;> with_reducible rfl
        try simp only [Act.put, zqf, zqg, zqh]
        refine lPv 3 (some 93) (.int .i64 (i : Int)) (keep_of hH) ?_
        try simp only [Act.put, zqf, zqg, zqh]
        refine lPq 4 (some 94) (v := ?_) rfl ?_ (keep_of hH) ?_
        rotate_left
        ·intro w; go_simp <;> with_reducible rfl
        try simp only [Act.put, zqf, zqg, zqh]
        refine lTq 5 (some 95) (v := ?_) rfl ?_ hH ?_
        rotate_left
        ·intro w hSw; (try dsimp only at hSw); go_simp <;> with_reducible rfl
        try simp only [Act.put, zqf, zqg, zqh]
        refine lPv 6 (some 96) (.pointer (some ⟨b7, 2, none⟩)) (keep_of hH) ?_
        try simp only [Act.put, zqf, zqg, zqh]
        refine lTq 7 (some 97) (v := ?_) rfl ?_ hH ?_
        rotate_left
        ·intro w hSw; (try dsimp only at hSw); go_simp <;> with_reducible rfl
        try simp only [Act.put, zqf, zqg, zqh]
        refine lPv 8 (some 98) (.int .i64 (i : Int)) (keep_of hH) ?_
        try simp only [Act.put, zqf, zqg, zqh]
        refine lPq 9 (some 99) (v := ?_) rfl ?_ (keep_of hH) ?_
        rotate_left
        ·intro w; go_simp <;> with_reducible rfl
        try simp only [Act.put, zqf, zqg, zqh]
        refine lTq 10 (some 100) (v := ?_) rfl ?_ hH ?_
        rotate_left
        ·intro w hSw; (try dsimp only at hSw); go_simp <;> with_reducible rfl
        try simp only [Act.put, zqf, zqg, zqh]
        refine lPv 11 (some 101) (.pointer (some ⟨w.heap.size, 2, none⟩)) (keep_of hH) ?_
        try simp only [Act.put, zqf, zqg, zqh]
        refine lTq 12 (some 102) (v := ?_) rfl ?_ hH ?_
        rotate_left
        ·intro w hSw; (try dsimp only at hSw); go_simp <;> with_reducible rfl
        try simp only [Act.put, zqf, zqg, zqh]
        refine lPv 13 (some 103) (.agg #[.int .i64 (xi : Int), .int .i64 (yi : Int), .bool t]) (keep_of hH) ?_
        try simp only [Act.put, zqf, zqg, zqh]
        refine with_G (G0 := wpAnyL _ _ _ _ _ _) ?_
        intro G hG a0 hA
        have Z0 : Kept (∀ (b104 : Nat) (a1 : Option Addr) (c1 : Nat) (wq : World), Hid (Mem w wq [rowR 85 3 (.slice a1 (i + 1) c1) (i + 1) (ccells (L.take i) ++ [.int .i64 (xi : Int), .int .i64 (yi : Int), .bool t]), cellsR b6 33 #[.int .i64 X.kind, .string X.name, .slice (some ⟨bx, ox, none⟩) X.args.length cx, .slice lx X.labels.length dx, .bool X.isOpen], cellsR b7 33 #[.int .i64 Y.kind, .string Y.name, .slice (some ⟨by', oy, none⟩) Y.args.length cy, .slice ly Y.labels.length dy, .bool Y.isOpen], cellsR w.heap.size 85 #[.int .i64 (a : Int), .int .i64 (b : Int), .bool t]]) → G 0 (bt 17 131071) (((a0.put (some 104) (.slice (some ⟨b104, 0, none⟩) 1 1)).put (some 105) (.slice a1 (i + 1) c1)).put (some 8) (.slice a1 (i + 1) c1)) wq) := ⟨by
         intro b104 a1 c1 wq HC
         refine into_G hG ?_
         rw [hA.out]
         try simp only [Act.put, zqf, zqg, zqh]
         refine lDone (by kernel_rfl) ?_
         clear hA hG
         go_wp2_with fail
         go_roundw
         case rel =>
          refine ⟨i + 1, a1, c1, by omega, rfl, by go_num, ?_⟩
          show Mem _ _ _
          rw [HZS.out, ccells_append]
          exact HC.out
         case measure => simp [intOf]; omega
        ⟩
        have Z1 : Kept (∀ (b104 : Nat) (wq : World), Hid (Mem w wq [rowR 85 3 (.slice (some ⟨b104, 0, none⟩) 1 1) 1 [.int .i64 (xi : Int), .int .i64 (yi : Int), .bool t], rowR 85 3 (.slice aO i cO) i (ccells (L.take i)), cellsR b6 33 #[.int .i64 X.kind, .string X.name, .slice (some ⟨bx, ox, none⟩) X.args.length cx, .slice lx X.labels.length dx, .bool X.isOpen], cellsR b7 33 #[.int .i64 Y.kind, .string Y.name, .slice (some ⟨by', oy, none⟩) Y.args.length cy, .slice ly Y.labels.length dy, .bool Y.isOpen], cellsR w.heap.size 85 #[.int .i64 (a : Int), .int .i64 (b : Int), .bool t]]) → G 2 (bt 17 32767) (a0.put (some 104) (.slice (some ⟨b104, 0, none⟩) 1 1)) wq) := ⟨by
         intro b104 wq HC
         refine into_G hG ?_
         rw [hA.out]
         have hH := cS.is (w := wq) (⟨HC.out.cell 2 rfl 2 rfl, HC.out.cell 3 rfl 2 rfl, HC.out.cell 4 rfl 2 rfl, cell_below HC.out.below HCX.out, cell_below HC.out.below HCY.out⟩)
         refine lOne 15 (by kernel_rfl) ?_
         ·
          refine LFall.app (by kernel_rfl) (some 105) (.tmp 90) (.tmp 104) 86 (by kernel_rfl) 85 ji _ 3 24 Tryz.underlying86 L1.out L2.out L3.out L4.out rfl (by omega) (.slice aO i cO) i (ccells (L.take i)) (by kernel_rfl) (HC.out.row 1 rfl) (some ⟨b104, 0, none⟩) 1 1 [.int .i64 (xi : Int), .int .i64 (yi : Int), .bool t] (by kernel_rfl) (nrow3 (HC.out.row 0 rfl)) (by simp [Value.oneCell']) (by unfold maxLen; omega) (by omega) ?_
          intro v' wr hown4 hgrow4 hat4
          have M4 := HC.out.grow 1 rfl hgrow4 hown4 hat4
          obtain ⟨a1, c1, rfl, _⟩ := M4.val 1 rfl
          have HN := Tre.hid (M4.del 0)
          clear M4 hown4 hgrow4 hat4
          refine lPv 16 (some 8) (.slice a1 (i + 1) c1) (keep_fell (by kernel_rfl)) ?_
          exact outof_G hG (Z0.out b104 a1 c1 wr HN) (by kernel_rfl) (by rw [hA.out]; try kernel_rfl)
        ⟩
        have Z2 : Kept (∀ (wq : World), Hid (Mem w wq [rowR 85 3 (.slice aO i cO) i (ccells (L.take i)), cellsR b6 33 #[.int .i64 X.kind, .string X.name, .slice (some ⟨bx, ox, none⟩) X.args.length cx, .slice lx X.labels.length dx, .bool X.isOpen], cellsR b7 33 #[.int .i64 Y.kind, .string Y.name, .slice (some ⟨by', oy, none⟩) Y.args.length cy, .slice ly Y.labels.length dy, .bool Y.isOpen], cellsR w.heap.size 85 #[.int .i64 (a : Int), .int .i64 (b : Int), .bool t]]) → G 3 (bt 17 16383) (a0) wq) := ⟨by
         intro  wq HC
         refine into_G hG ?_
         rw [hA.out]
         have hH := cS.is (w := wq) (⟨HC.out.cell 1 rfl 2 rfl, HC.out.cell 2 rfl 2 rfl, HC.out.cell 3 rfl 2 rfl, cell_below HC.out.below HCX.out, cell_below HC.out.below HCY.out⟩)
         refine lOne 14 (by kernel_rfl) ?_
         ·
          have HN := Tre.hid (HC.out.allocRow #[.int .i64 (xi : Int), .int .i64 (yi : Int), .bool t] 85 3 1 (by unfold maxLen; omega) rfl)
          have hH2 := cS.is (w := (wq.alloc (.cells #[.int .i64 (xi : Int), .int .i64 (yi : Int), .bool t] 85))) (⟨HN.out.cell 2 rfl 2 rfl, HN.out.cell 3 rfl 2 rfl, HN.out.cell 4 rfl 2 rfl, cell_below HN.out.below HCX.out, cell_below HN.out.below HCY.out⟩)
          refine LStep.made (some 104) (.slice (some ⟨wq.heap.size, 0, none⟩) 1 1) _ (by kernel_rfl) (by kernel_rfl) hH2 ?_
          exact outof_G hG (Z1.out wq.heap.size _ HN) (by kernel_rfl) (by rw [hA.out]; try kernel_rfl)
        ⟩
        exact Z2.out  wq0 HC
       ·have e : i = X.args.length := by omega
        subst e
        have HTA : Hid (L.take X.args.length = L) := by show _ = _; exact List.take_of_length_le (by rw [HLN.out]; exact Nat.le_refl _)
        have HR : Hid (Mem w wr [rowR 85 3 (.slice aO X.args.length cO) X.args.length (ccells L)]) := by have h := ((HI.out.del 1).del 1).del 1; rw [HTA.out] at h; exact h
        go_wp2_with fail
        go_ret2
        exact .inl ⟨_, L, rfl, HOK.out, HLD.out, by rw [HLN.out]; exact HR.out⟩
   ·have e1 : (X.kind != Y.kind) = false := by simp [hk]
    have e2 : (X.name.toList == Y.name.toList) = false := by rw [str_eq]; simp [hn]
    have HNO : Hid (¬ FolN X Y t) := fun h => hn h.2.1
    clear hk hn
    go_wp2_with fail
    go_ret2
    exact .inr ⟨_, rfl, HNO.out, HQ.out.below⟩
  ·have e1 : (X.kind != Y.kind) = true := by simp [hk]
   have HNO : Hid (¬ FolN X Y t) := fun h => hk h.1
   clear hk
   go_wp2_with fail
   go_ret2
   exact .inr ⟨_, rfl, HNO.out, HQ.out.below⟩
 ⟩
 have Z1 : Kept (∀ (b6 : Nat) (b7 : Nat) (wq : World), Hid (Mem w wq [cellsR b6 33 #[.int .i64 X.kind, .string X.name, .slice ax X.args.length cx, .slice lx X.labels.length dx, .bool X.isOpen], cellsR b7 33 #[.int .i64 0, .string { data := #[] }, .slice none 0 0, .slice none 0 0, .bool false], cellsR w.heap.size 85 #[.int .i64 (a : Int), .int .i64 (b : Int), .bool t]]) → G 1 (bt 22 2097151) ((a0.put (some 6) (.pointer (some ⟨b6, 0, none⟩))).put (some 7) (.pointer (some ⟨b7, 0, none⟩))) wq) := ⟨by
  intro b6 b7 wq HC
  refine into_G hG ?_
  rw [hA.out]
  try simp only [Act.put, zqf, zqg, zqh]
  have hH := cS.is (w := wq) (⟨cell_below HC.out.below HP0.out, cell_below HC.out.below HP2.out, HC.out.cell 2 rfl 0 rfl, HC.out.cell 2 rfl 1 rfl, cell_below HC.out.below X0.out, cell_below HC.out.below X1.out, cell_below HC.out.below X2.out, cell_below HC.out.below X3.out, cell_below HC.out.below X4.out, cell_below HC.out.below Y0.out, cell_below HC.out.below Y1.out, cell_below HC.out.below Y2.out, cell_below HC.out.below Y3.out, cell_below HC.out.below Y4.out⟩)
  refine lOne 21 (by kernel_rfl) ?_
  ·
   refine (LFall.op (by kernel_rfl) (fun K hK => ?_))
   have z0 := HC.out.free 1 rfl 0
   have z1 := HC.out.free 1 rfl 1
   have z2 := HC.out.free 1 rfl 2
   have z3 := HC.out.free 1 rfl 3
   have z4 := HC.out.free 1 rfl 4
   obtain ⟨y0, y1, y2, y3, y4⟩ := five HC.out 1 rfl
   have HN := Tre.hid (((((HC.out.setCell 1 rfl 0 (.int .i64 Y.kind)).setCell 1 rfl 1 (.string Y.name)).setCell 1 rfl 2 (.slice ay Y.args.length cy)).setCell 1 rfl 3 (.slice ly Y.labels.length dy)).setCell 1 rfl 4 (.bool Y.isOpen))
   go_simp
   clear z0 z1 z2 z3 z4 y0 y1 y2 y3 y4
   generalize hw : World.setCell _ ⟨b7, 4, none⟩ _ = wr at HN ⊢
   clear hw
   refine hK.out _ _ ?_
   exact outof_G hG (Z0.out b6 b7 wr HN) (by kernel_rfl) (by rw [hA.out]; try kernel_rfl)
 ⟩
 have Z2 : Kept (∀ (b6 : Nat) (b7 : Nat) (wq : World), Hid (Mem w wq [cellsR b6 33 #[.int .i64 0, .string { data := #[] }, .slice none 0 0, .slice none 0 0, .bool false], cellsR b7 33 #[.int .i64 0, .string { data := #[] }, .slice none 0 0, .slice none 0 0, .bool false], cellsR w.heap.size 85 #[.int .i64 (a : Int), .int .i64 (b : Int), .bool t]]) → G 2 (bt 22 1048575) ((a0.put (some 6) (.pointer (some ⟨b6, 0, none⟩))).put (some 7) (.pointer (some ⟨b7, 0, none⟩))) wq) := ⟨by
  intro b6 b7 wq HC
  refine into_G hG ?_
  rw [hA.out]
  try simp only [Act.put, zqf, zqg, zqh]
  have hH := cS.is (w := wq) (⟨cell_below HC.out.below HP0.out, cell_below HC.out.below HP2.out, HC.out.cell 2 rfl 0 rfl, HC.out.cell 2 rfl 1 rfl, cell_below HC.out.below X0.out, cell_below HC.out.below X1.out, cell_below HC.out.below X2.out, cell_below HC.out.below X3.out, cell_below HC.out.below X4.out, cell_below HC.out.below Y0.out, cell_below HC.out.below Y1.out, cell_below HC.out.below Y2.out, cell_below HC.out.below Y3.out, cell_below HC.out.below Y4.out⟩)
  refine lOne 20 (by kernel_rfl) ?_
  ·
   refine (LStep.op (fun K hK => ?_))
   have z0 := HC.out.free 0 rfl 0
   have z1 := HC.out.free 0 rfl 1
   have z2 := HC.out.free 0 rfl 2
   have z3 := HC.out.free 0 rfl 3
   have z4 := HC.out.free 0 rfl 4
   obtain ⟨y0, y1, y2, y3, y4⟩ := five HC.out 0 rfl
   have HN := Tre.hid (((((HC.out.setCell 0 rfl 0 (.int .i64 X.kind)).setCell 0 rfl 1 (.string X.name)).setCell 0 rfl 2 (.slice ax X.args.length cx)).setCell 0 rfl 3 (.slice lx X.labels.length dx)).setCell 0 rfl 4 (.bool X.isOpen))
   go_simp
   clear z0 z1 z2 z3 z4 y0 y1 y2 y3 y4
   generalize hw : World.setCell _ ⟨b6, 4, none⟩ _ = wr at HN ⊢
   clear hw
   refine hK.out _ _ ?_ (fun hH2 => ?_)
   ·exact ⟨cell_below HN.out.below HP0.out, cell_below HN.out.below HP2.out, HN.out.cell 2 rfl 0 rfl, HN.out.cell 2 rfl 1 rfl, cell_below HN.out.below X0.out, cell_below HN.out.below X1.out, cell_below HN.out.below X2.out, cell_below HN.out.below X3.out, cell_below HN.out.below X4.out, cell_below HN.out.below Y0.out, cell_below HN.out.below Y1.out, cell_below HN.out.below Y2.out, cell_below HN.out.below Y3.out, cell_below HN.out.below Y4.out⟩
   exact outof_G hG (Z1.out b6 b7 wr HN) (by kernel_rfl) (by rw [hA.out]; try kernel_rfl)
 ⟩
 have Z3 : Kept (∀ (b6 : Nat) (wq : World), Hid (Mem w wq [cellsR b6 33 #[.int .i64 0, .string { data := #[] }, .slice none 0 0, .slice none 0 0, .bool false], cellsR w.heap.size 85 #[.int .i64 (a : Int), .int .i64 (b : Int), .bool t]]) → G 3 (bt 22 524287) (a0.put (some 6) (.pointer (some ⟨b6, 0, none⟩))) wq) := ⟨by
  intro b6 wq HC
  refine into_G hG ?_
  rw [hA.out]
  have hH := cS.is (w := wq) (⟨cell_below HC.out.below HP0.out, cell_below HC.out.below HP2.out, HC.out.cell 1 rfl 0 rfl, HC.out.cell 1 rfl 1 rfl, cell_below HC.out.below X0.out, cell_below HC.out.below X1.out, cell_below HC.out.below X2.out, cell_below HC.out.below X3.out, cell_below HC.out.below X4.out, cell_below HC.out.below Y0.out, cell_below HC.out.below Y1.out, cell_below HC.out.below Y2.out, cell_below HC.out.below Y3.out, cell_below HC.out.below Y4.out⟩)
  refine lOne 19 (by kernel_rfl) ?_
  ·
   have HN := Tre.hid (HC.out.allocR #[.int .i64 0, .string { data := #[] }, .slice none 0 0, .slice none 0 0, .bool false] 33)
   have HC := Tre.hid ((HN.out.front 0 rfl).front 1 rfl)
   clear HN
   have hH2 := cS.is (w := (wq.alloc (.cells #[.int .i64 0, .string { data := #[] }, .slice none 0 0, .slice none 0 0, .bool false] 33))) (⟨cell_below HC.out.below HP0.out, cell_below HC.out.below HP2.out, HC.out.cell 2 rfl 0 rfl, HC.out.cell 2 rfl 1 rfl, cell_below HC.out.below X0.out, cell_below HC.out.below X1.out, cell_below HC.out.below X2.out, cell_below HC.out.below X3.out, cell_below HC.out.below X4.out, cell_below HC.out.below Y0.out, cell_below HC.out.below Y1.out, cell_below HC.out.below Y2.out, cell_below HC.out.below Y3.out, cell_below HC.out.below Y4.out⟩)
   refine LStep.made (some 7) (.pointer (some ⟨wq.heap.size, 0, none⟩)) _ (by kernel_rfl) (by kernel_rfl) hH2 ?_
   exact outof_G hG (Z2.out b6 wq.heap.size _ HC) (by kernel_rfl) (by rw [hA.out]; try kernel_rfl)
 ⟩
 have Z4 : Kept (∀ (b7 : Nat) (wq : World), Hid (Mem w wq [cellsR b7 33 #[.int .i64 0, .string { data := #[] }, .slice none 0 0, .slice none 0 0, .bool false], cellsR w.heap.size 85 #[.int .i64 (a : Int), .int .i64 (b : Int), .bool t]]) → G 3 (bt 22 786431) (a0.put (some 7) (.pointer (some ⟨b7, 0, none⟩))) wq) := ⟨by
  intro b7 wq HC
  refine into_G hG ?_
  rw [hA.out]
  have hH := cS.is (w := wq) (⟨cell_below HC.out.below HP0.out, cell_below HC.out.below HP2.out, HC.out.cell 1 rfl 0 rfl, HC.out.cell 1 rfl 1 rfl, cell_below HC.out.below X0.out, cell_below HC.out.below X1.out, cell_below HC.out.below X2.out, cell_below HC.out.below X3.out, cell_below HC.out.below X4.out, cell_below HC.out.below Y0.out, cell_below HC.out.below Y1.out, cell_below HC.out.below Y2.out, cell_below HC.out.below Y3.out, cell_below HC.out.below Y4.out⟩)
  refine lOne 18 (by kernel_rfl) ?_
  ·
   have HN := Tre.hid (HC.out.allocR #[.int .i64 0, .string { data := #[] }, .slice none 0 0, .slice none 0 0, .bool false] 33)
   have hH2 := cS.is (w := (wq.alloc (.cells #[.int .i64 0, .string { data := #[] }, .slice none 0 0, .slice none 0 0, .bool false] 33))) (⟨cell_below HN.out.below HP0.out, cell_below HN.out.below HP2.out, HN.out.cell 2 rfl 0 rfl, HN.out.cell 2 rfl 1 rfl, cell_below HN.out.below X0.out, cell_below HN.out.below X1.out, cell_below HN.out.below X2.out, cell_below HN.out.below X3.out, cell_below HN.out.below X4.out, cell_below HN.out.below Y0.out, cell_below HN.out.below Y1.out, cell_below HN.out.below Y2.out, cell_below HN.out.below Y3.out, cell_below HN.out.below Y4.out⟩)
   refine LStep.made (some 6) (.pointer (some ⟨wq.heap.size, 0, none⟩)) _ (by kernel_rfl) (by kernel_rfl) hH2 ?_
   exact outof_G hG (Z2.out wq.heap.size b7 _ HN) (by kernel_rfl) (by rw [hA.out]; try kernel_rfl)
 ⟩
 have Z5 : Kept (∀ (wq : World), Hid (Mem w wq [cellsR w.heap.size 85 #[.int .i64 (a : Int), .int .i64 (b : Int), .bool t]]) → G 4 (bt 22 262143) (a0) wq) := ⟨by
  intro  wq HC
  refine into_G hG ?_
  rw [hA.out]
  have hH := cS.is (w := wq) (⟨cell_below HC.out.below HP0.out, cell_below HC.out.below HP2.out, HC.out.cell 0 rfl 0 rfl, HC.out.cell 0 rfl 1 rfl, cell_below HC.out.below X0.out, cell_below HC.out.below X1.out, cell_below HC.out.below X2.out, cell_below HC.out.below X3.out, cell_below HC.out.below X4.out, cell_below HC.out.below Y0.out, cell_below HC.out.below Y1.out, cell_below HC.out.below Y2.out, cell_below HC.out.below Y3.out, cell_below HC.out.below Y4.out⟩)
  refine lTwo 18 19 (by kernel_rfl) ?_ ?_
  ·
   have HN := Tre.hid (HC.out.allocR #[.int .i64 0, .string { data := #[] }, .slice none 0 0, .slice none 0 0, .bool false] 33)
   have hH2 := cS.is (w := (wq.alloc (.cells #[.int .i64 0, .string { data := #[] }, .slice none 0 0, .slice none 0 0, .bool false] 33))) (⟨cell_below HN.out.below HP0.out, cell_below HN.out.below HP2.out, HN.out.cell 1 rfl 0 rfl, HN.out.cell 1 rfl 1 rfl, cell_below HN.out.below X0.out, cell_below HN.out.below X1.out, cell_below HN.out.below X2.out, cell_below HN.out.below X3.out, cell_below HN.out.below X4.out, cell_below HN.out.below Y0.out, cell_below HN.out.below Y1.out, cell_below HN.out.below Y2.out, cell_below HN.out.below Y3.out, cell_below HN.out.below Y4.out⟩)
   refine LStep.made (some 6) (.pointer (some ⟨wq.heap.size, 0, none⟩)) _ (by kernel_rfl) (by kernel_rfl) hH2 ?_
   exact outof_G hG (Z3.out wq.heap.size _ HN) (by kernel_rfl) (by rw [hA.out]; try kernel_rfl)
  ·
   have HN := Tre.hid (HC.out.allocR #[.int .i64 0, .string { data := #[] }, .slice none 0 0, .slice none 0 0, .bool false] 33)
   have hH2 := cS.is (w := (wq.alloc (.cells #[.int .i64 0, .string { data := #[] }, .slice none 0 0, .slice none 0 0, .bool false] 33))) (⟨cell_below HN.out.below HP0.out, cell_below HN.out.below HP2.out, HN.out.cell 1 rfl 0 rfl, HN.out.cell 1 rfl 1 rfl, cell_below HN.out.below X0.out, cell_below HN.out.below X1.out, cell_below HN.out.below X2.out, cell_below HN.out.below X3.out, cell_below HN.out.below X4.out, cell_below HN.out.below Y0.out, cell_below HN.out.below Y1.out, cell_below HN.out.below Y2.out, cell_below HN.out.below Y3.out, cell_below HN.out.below Y4.out⟩)
   refine LStep.made (some 7) (.pointer (some ⟨wq.heap.size, 0, none⟩)) _ (by kernel_rfl) (by kernel_rfl) hH2 ?_
   exact outof_G hG (Z4.out wq.heap.size _ HN) (by kernel_rfl) (by rw [hA.out]; try kernel_rfl)
 ⟩
 exact Z5.out  wq0 HC
end Go.Proofs.YtoieknnnadgfpaaGreatDoor.gr
