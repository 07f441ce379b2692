/- sub: the claims that two objects lead to. -/
import Derived.Test.YtoieknnnadgfpaaGreatDoorB07
import Derived.Test.YtoieknnnadgfpaaGreatDoorB08
import Derived.Deep.DeepCutAuto
import Derived.IntWalk
set_option linter.unusedVariables false
namespace Go.Tre
def mkC (t : Bool) (p : Nat × Nat) : Claim := if t then (p.1, p.2, true) else (p.2, p.1, false)
def objP (F M : List ByteArray) (fs ms : List Nat) : List (Nat × Nat) := (List.range F.length).map fun i => (fs.getD i 0, ms.getD (M.idxOf (F.getD i ByteArray.empty)) 0)
theorem idxOf_at {s : ByteArray} : ∀ {l : List ByteArray}, s ∈ l → l[l.idxOf s]? = some s
 | [], h => by simp at h
 | x :: l, h => by
  rw [List.idxOf_cons]
  by_cases e : x = s
  ·subst e
   rw [show (x == x) = true by show (x.data == x.data) = true; simp]
   rfl
  ·have hb : (x == s) = false := by
    show (x.data == s.data) = false
    simp only [beq_eq_false_iff_ne]
    exact fun h => e (ByteArray.ext h)
   rw [hb]
   have hm : s ∈ l := by
    rcases List.mem_cons.1 h with h | h
    ·exact absurd h.symm e
    ·exact h
   exact idxOf_at hm
theorem objP_len (F M : List ByteArray) (fs ms : List Nat) : (objP F M fs ms).length = F.length := by unfold objP; rw [List.length_map, List.length_range]
theorem objP_at {F M : List ByteArray} {fs ms : List Nat} {i k x y : Nat} {s : ByteArray} (hs : F[i]? = some s) (hx : fs[i]? = some x) (hk : M.idxOf s = k) (hy : ms[k]? = some y) : (objP F M fs ms)[i]? = some (x, y) := by
 unfold objP
 rw [List.getElem?_map, List.getElem?_range (List.getElem?_eq_some_iff.1 hs).1, zqd, List.getD_eq_getElem?_getD, List.getD_eq_getElem?_getD, List.getD_eq_getElem?_getD, hs, hx, Option.getD_some, Option.getD_some, hk, hy, Option.getD_some]
end Go.Tre
namespace Go.Proofs.YtoieknnnadgfpaaGreatDoor.gr
open Go.RowKit Go.Shelf Go.Maps Go.Tre lex
theorem infoSC : (Tryz.prog.info? 85).map (fun i => (i.zero, i.size, i.bytes)) = some (some (.agg #[.int .i64 0, .int .i64 0, .bool false]), 3, 24) := by kernel_rfl
theorem search_nil (a : Option Addr) (c : Nat) (s : ByteArray) (w : World) : Calls Tryz.prog 27 #[.slice a ([] : List ByteArray).length c, .string s] w fun e w' => (∃ k : Int, e = .returned (.tuple #[.int .i64 k, .bool false])) ∧ Below w.heap.size w w' := by
 go_enter Tryz.func27, Tryz.ntmps27
 go_wp2_with fail
 go_loopw [7, 8] (fun v7 v8 wr => v7 = .int .i64 0 ∧ v8 = .int .i64 0 ∧ Hid (Below w.heap.size w wr)) (fun _ _ _ => 0)
 case atStart => exact ⟨rfl, rfl, Below.refl _ _⟩
 case round =>
  obtain ⟨rfl, rfl, hB⟩ := hrel
  go_wp2_with fail
  go_ret2
  exact ⟨⟨_, rfl⟩, hB.out⟩
theorem search_none (a : Option Addr) (c : Nat) (l : List ByteArray) (s : ByteArray) (w : World) (hx : StrsAt w a l) (hs : s ∉ l) (hb : l.length ≤ 8388608) :
  Calls Tryz.prog 27 #[.slice a l.length c, .string s] w fun e w' => (∃ k : Int, e = .returned (.tuple #[.int .i64 k, .bool false])) ∧ Below w.heap.size w w' := by
 have key : ∀ b o : Nat, a = some ⟨b, o, none⟩ → Calls Tryz.prog 27 #[.slice a l.length c, .string s] w fun e w' => (∃ k : Int, e = .returned (.tuple #[.int .i64 k, .bool false])) ∧ Below w.heap.size w w' := by
  rintro b o rfl
  refine (Tryz.slices_BinarySearch_string b o l.length c (fun t => l.getD t ByteArray.empty) s w (by omega) (fun j hj => ?_)).mono ?_
  ·obtain ⟨b', o', e, hc⟩ := hx.at_ j (.string l[j]) (by rw [List.getElem?_map, List.getElem?_eq_getElem hj]; rfl)
   cases e
   rw [hc, List.getD_eq_getElem?_getD, List.getElem?_eq_getElem hj]; rfl
  ·rintro e w' ⟨rfl, q, rfl⟩
   generalize Lib.bsGo (fun t => Op.bytesLess (l.getD t ByteArray.empty).toList s.toList) l.length 0 l.length = kk
   refine ⟨⟨(kk : Int), ?_⟩, Go.below_drewN (Below.refl _ _) q⟩
   rw [decide_eq_false]
   rintro ⟨h1, h2⟩
   apply hs
   rw [List.getD_eq_getElem?_getD, List.getElem?_eq_getElem h1, Option.getD_some] at h2
   rw [← h2]
   exact List.getElem_mem h1
 cases l with
 | nil => exact search_nil a c s w
 | cons x l =>
  obtain ⟨b, o, e, _⟩ := hx.at_ 0 (.string x) rfl
  exact key b o e
set_option maxRecDepth 100000 in
set_option maxHeartbeats 16000000 in
theorem objects_no (X Y : Tre.Node) (ax ay lx ly : Option Addr) (cx cy dx dy : Nat) (xs ys : List Nat) (p ca cb : Value) (w : World) (hxa : IntsAt w ax X.args) (hxs : StrsAt w lx X.labels) (hya : IntsAt w ay Y.args) (hys : StrsAt w ly Y.labels)
  (hxe : X.args = xs.map fun k : Nat => (k : Int)) (hye : Y.args = ys.map fun k : Nat => (k : Int)) (hxl : X.labels.length = X.args.length) (hyl : Y.labels.length = Y.args.length) (hr : rising X.labels = true) (bx : X.args.length ≤ 2097152) (by_ : Y.args.length ≤ 2097152) :
  Calls Tryz.prog 54 #[p, .agg #[ca, cb, .bool false], .agg #[.int .i64 X.kind, .string X.name, .slice ax X.args.length cx, .slice lx X.labels.length dx, .bool X.isOpen], .agg #[.int .i64 Y.kind, .string Y.name, .slice ay Y.args.length cy, .slice ly Y.labels.length dy, .bool Y.isOpen]] w fun e w' =>
   (∃ v, e = .returned (.tuple #[v, .bool true]) ∧ (∀ s ∈ Y.labels, s ∈ X.labels) ∧ Mem w w' [rowR 85 3 v (objP Y.labels X.labels ys xs).length (ccells ((objP Y.labels X.labels ys xs).map (mkC false)))]) ∨
   (∃ v, e = .returned (.tuple #[v, .bool false]) ∧ (¬ ∀ s ∈ Y.labels, s ∈ X.labels) ∧ Below w.heap.size w w') := by
 have M0 := (((Mem.nil w).allocR #[ca, cb, .bool false] 85).allocR #[.int .i64 X.kind, .string X.name, .slice ax X.args.length cx, .slice lx X.labels.length dx, .bool X.isOpen] 33).allocR #[.int .i64 Y.kind, .string Y.name, .slice ay Y.args.length cy, .slice ly Y.labels.length dy, .bool Y.isOpen] 33
 simp only [heapSize_alloc] at M0
 have HM0 := Tre.hid M0
 have HFS := Tre.hid hys
 have HMS := Tre.hid hxs
 have HFI := Tre.hid hya
 have HMA := Tre.hid hxa
 have HFE := Tre.hid hye
 have HME := Tre.hid hxe
 have HFA : Hid ((Y.args.length : Int) = (Y.labels.length : Int)) := by show _ = _; omega
 have HMAL : Hid ((X.args.length : Int) = (X.labels.length : Int)) := by show _ = _; omega
 have HFL : Hid (ys.length = Y.labels.length) := by show _ = _; rw [hyl, hye, List.length_map]
 have HML : Hid (xs.length = X.labels.length) := by show _ = _; rw [hxl, hxe, List.length_map]
 have HML2 : Hid (X.labels.length ≤ 2097152) := by show _ ≤ _; omega
 have HRM := Tre.hid hr
 have hfl : Y.labels.length ≤ 2097152 := by omega
 obtain ⟨ji, K1, K2, K3, K4⟩ := info_parts infoSC
 have L1 := Tre.hid K1
 have L2 := Tre.hid K2
 have L3 := Tre.hid K3
 have L4 := Tre.hid K4
 clear M0 hxa hxs hya hys hxe hye hxl hyl hr bx by_ K1 K2 K3 K4
 go_enter Tryz.func54, Tryz.ntmps54
 go_upto_region 1 with fail
 have cS : Cond (fun w' => w'.cell? ⟨w.heap.size + 1, 0, none⟩ = some (.int .i64 X.kind) ∧ w'.cell? ⟨w.heap.size + 1, 1, none⟩ = some (.string X.name) ∧ w'.cell? ⟨w.heap.size + 1, 2, none⟩ = some (.slice ax X.args.length cx) ∧ w'.cell? ⟨w.heap.size + 1, 3, none⟩ = some (.slice lx X.labels.length dx) ∧ w'.cell? ⟨w.heap.size + 1, 4, none⟩ = some (.bool X.isOpen) ∧ w'.cell? ⟨w.heap.size + 2, 0, none⟩ = some (.int .i64 Y.kind) ∧ w'.cell? ⟨w.heap.size + 2, 1, none⟩ = some (.string Y.name) ∧ w'.cell? ⟨w.heap.size + 2, 2, none⟩ = some (.slice ay Y.args.length cy) ∧ w'.cell? ⟨w.heap.size + 2, 3, none⟩ = some (.slice ly Y.labels.length dy) ∧ w'.cell? ⟨w.heap.size + 2, 4, none⟩ = some (.bool Y.isOpen)) := ⟨⟩
 refine cS.keep [5] ?_ (fun hH => ?_)
 ·exact ⟨HM0.out.drew.cell 1 rfl 0 rfl, HM0.out.drew.cell 1 rfl 1 rfl, HM0.out.drew.cell 1 rfl 2 rfl, HM0.out.drew.cell 1 rfl 3 rfl, HM0.out.drew.cell 1 rfl 4 rfl, HM0.out.drew.cell 0 rfl 0 rfl, HM0.out.drew.cell 0 rfl 1 rfl, HM0.out.drew.cell 0 rfl 2 rfl, HM0.out.drew.cell 0 rfl 3 rfl, HM0.out.drew.cell 0 rfl 4 rfl⟩
 have HC := Tre.hid HM0.out.drew
 generalize hq : World.drew _ = wq0 at HC hH ⊢
 clear hq
 try simp only [Act.put, zqf, zqg, zqh]
 refine lTq 0 (some 17) (v := ?_) rfl ?_ hH ?_
 rotate_left
 ·intro w hSw; (try dsimp only at hSw); go_simp <;> with_reducible rfl
 try simp only [Act.put, zqf, zqg, zqh]
 try simp only [Act.put, zqf, zqg, zqh]
 refine lTq 1 (some 18) (v := ?_) rfl ?_ hH ?_
 rotate_left
 ·intro w hSw; (try dsimp only at hSw); go_simp <;> with_reducible rfl
 try simp only [Act.put, zqf, zqg, zqh]
 try simp only [Act.put, zqf, zqg, zqh]
 refine with_G (G0 := wpAnyL _ _ _ _ _ _) ?_
 intro G hG a0 hA
 have Z0 : Kept (∀ (b10 : Nat) (b11 : Nat) (wq : World), Hid (Mem w wq [cellsR b10 33 #[.int .i64 Y.kind, .string Y.name, .slice ay Y.args.length cy, .slice ly Y.labels.length dy, .bool Y.isOpen], cellsR b11 33 #[.int .i64 X.kind, .string X.name, .slice ax X.args.length cx, .slice lx X.labels.length dx, .bool X.isOpen], cellsR (w.heap.size + 2) 33 #[.int .i64 Y.kind, .string Y.name, .slice ay Y.args.length cy, .slice ly Y.labels.length dy, .bool Y.isOpen], cellsR (w.heap.size + 1) 33 #[.int .i64 X.kind, .string X.name, .slice ax X.args.length cx, .slice lx X.labels.length dx, .bool X.isOpen], cellsR w.heap.size 85 #[ca, cb, .bool false]]) → G 0 (bt 6 63) ((a0.put (some 10) (.pointer (some ⟨b10, 0, none⟩))).put (some 11) (.pointer (some ⟨b11, 0, none⟩))) wq) := ⟨by
  intro b10 b11 wq HC
  refine into_G hG ?_
  rw [hA.out]
  try simp only [Act.put, zqf, zqg, zqh]
  refine lDone (by kernel_rfl) ?_
  clear hA hG
  have ct := HC.out.cell 4 rfl 2 rfl
  have HQ := HC
  clear HC
  have l3 := HQ.out.cell 0 rfl 3 rfl
  have HL0 : Hid (Mem w wq [rowR 85 3 (.slice none 0 0) 0 (ccells (((objP Y.labels X.labels ys xs).take 0).map (mkC false))), cellsR b10 33 #[.int .i64 Y.kind, .string Y.name, .slice ay Y.args.length cy, .slice ly Y.labels.length dy, .bool Y.isOpen], cellsR b11 33 #[.int .i64 X.kind, .string X.name, .slice ax X.args.length cx, .slice lx X.labels.length dx, .bool X.isOpen], cellsR w.heap.size 85 #[ca, cb, .bool false]]) := HQ.out.addNil 85 3 |>.del 3 |>.del 3
  go_wp2_with fail
  clear l3 HQ ct
  go_loopw [8, 26] (fun v8 v26 wr => ∃ (i : Nat) (aO : Option Addr) (cO : Nat), i ≤ Y.labels.length ∧ v8 = .slice aO i cO ∧ v26 = .int .i64 (i : Int) ∧ Hid (∀ s ∈ Y.labels.take i, s ∈ X.labels) ∧ Hid (Mem w wr [rowR 85 3 (.slice aO i cO) i (ccells (((objP Y.labels X.labels ys xs).take i).map (mkC false))), cellsR b10 33 #[.int .i64 Y.kind, .string Y.name, .slice ay Y.args.length cy, .slice ly Y.labels.length dy, .bool Y.isOpen], cellsR b11 33 #[.int .i64 X.kind, .string X.name, .slice ax X.args.length cx, .slice lx X.labels.length dx, .bool X.isOpen], cellsR w.heap.size 85 #[ca, cb, .bool false]]))
   (fun _ v26 _ => Y.labels.length - (intOf v26).toNat)
  case atStart => exact ⟨0, none, 0, Nat.zero_le _, rfl, rfl, fun s hs => by simp at hs, HL0.out⟩
  case round =>
   obtain ⟨i, aO, cO, hi, rfl, rfl, hI1, HI⟩ := hrel
   by_cases hlt : i < Y.labels.length
   ·obtain ⟨s, hsi⟩ : ∃ s, Hid (Y.labels[i]? = some s) := ⟨_, List.getElem?_eq_getElem hlt⟩
    obtain ⟨kf, hkf⟩ : ∃ x, Hid (ys[i]? = some x) := ⟨_, List.getElem?_eq_getElem (by rw [HFL.out]; exact hlt)⟩
    obtain ⟨bl, ol, rfl, hlc⟩ := (HFS.out.below HI.out.below).at_ i (.string s) (by rw [List.getElem?_map, hsi.out]; rfl)
    have i1 : (0 : Int) ≤ (i : Int) := by omega
    have i2 : (i : Int) < (Y.labels.length : Int) := by omega
    have i3 : (i : Int) < (Y.args.length : Int) := by rw [HFA.out]; omega
    have m3 := HI.out.cell 2 rfl 3 rfl
    by_cases hsm : s ∈ X.labels
    ·obtain ⟨k, hk⟩ : ∃ k, X.labels.idxOf s = k := ⟨_, rfl⟩
     have hks : X.labels[k]? = some s := by rw [← hk]; exact idxOf_at hsm
     have hkl : k < X.labels.length := (List.getElem?_eq_some_iff.1 hks).1
     obtain ⟨km, hkm⟩ : ∃ x, Hid (xs[k]? = some x) := ⟨_, List.getElem?_eq_getElem (by rw [HML.out]; exact hkl)⟩
     have HZS : Hid ((objP Y.labels X.labels ys xs).take (i + 1) = (objP Y.labels X.labels ys xs).take i ++ [(kf, km)]) := by
      have hz : (objP Y.labels X.labels ys xs)[i]? = some (kf, km) := objP_at hsi.out hkf.out hk hkm.out
      show _ = _; rw [List.take_add_one, hz]; rfl
     have HSR := Tre.hid (search_any lx dx X.labels k s _ (HMS.out.below HI.out.below) HRM.out hkl hks (by have := HML2.out; omega))
     obtain ⟨bm, om, rfl, hcm⟩ := HMA.out.at_ k (.int .i64 (km : Int)) (by rw [HME.out, List.getElem?_map, List.getElem?_map, hkm.out]; rfl)
     obtain ⟨bf, of, rfl, hcf⟩ := HFI.out.at_ i (.int .i64 (kf : Int)) (by rw [HFE.out, List.getElem?_map, List.getElem?_map, hkf.out]; rfl)
     have HCM := Tre.hid hcm
     have HCF := Tre.hid hcf
     have k1 : (0 : Int) ≤ (k : Int) := by omega
     have k2 : (k : Int) < (X.args.length : Int) := by rw [HMAL.out]; omega
     have hsm := Tre.hid hsm
     clear hk hks hcm hcf
     go_wp2_with fail
     refine HSR.out.mono ?_
     rintro e wq1 ⟨rfl, bq⟩
     have HI2 := Tre.hid (HI.out.quiet bq)
     clear bq HSR HI m3 hlc
     go_upto_region 10 with fail
     have cS : Cond (fun w' => w'.cell? ⟨b11, 2, none⟩ = some (.slice (some ⟨bm, om, none⟩) X.args.length cx) ∧ w'.cell? ⟨b10, 2, none⟩ = some (.slice (some ⟨bf, of, none⟩) Y.args.length cy) ∧ w'.cell? ⟨bm, om + k, none⟩ = some (.int .i64 (km : Int)) ∧ w'.cell? ⟨bf, of + i, none⟩ = some (.int .i64 (kf : Int))) := ⟨⟩
     refine cS.keep [12] ?_ (fun hH => ?_)
     ·exact ⟨HI2.out.drew.cell 2 rfl 2 rfl, HI2.out.drew.cell 1 rfl 2 rfl, cell_below HI2.out.drew.below HCM.out, cell_below HI2.out.drew.below HCF.out⟩
     have HC := Tre.hid HI2.out.drew
     generalize hq : World.drew _ = wq0 at HC hH ⊢
     clear hq
     refine lPv 0 (some 40) (.pointer (some ⟨b11, 2, none⟩)) (keep_of hH) ?_
     try simp only [Act.put, zqf, zqg, zqh]
     refine lTq 1 (some 41) (v := ?_) rfl ?_ hH ?_
     rotate_left
     ·intro w hSw; (try dsimp only at hSw); go_simp <;> with_reducible rfl
     try simp only [Act.put, zqf, zqg, zqh]
     refine lPv 2 (some 42) (.int .i64 (k : Int)) (keep_of hH) ?_
     try simp only [Act.put, zqf, zqg, zqh]
     refine lPq 3 (some 43) (v := ?_) rfl ?_ (keep_of hH) ?_
     rotate_left
     ·intro w; go_simp <;> with_reducible rfl
     try simp only [Act.put, zqf, zqg, zqh]
     refine lTq 4 (some 44) (v := ?_) rfl ?_ hH ?_
     rotate_left
     ·intro w hSw; (try dsimp only at hSw); go_simp <;> with_reducible rfl
     try simp only [Act.put, zqf, zqg, zqh]
     refine lPv 5 (some 45) (.pointer (some ⟨b10, 2, none⟩)) (keep_of hH) ?_
     try simp only [Act.put, zqf, zqg, zqh]
     refine lTq 6 (some 46) (v := ?_) rfl ?_ hH ?_
     rotate_left
     ·intro w hSw; (try dsimp only at hSw); go_simp <;> with_reducible rfl
     try simp only [Act.put, zqf, zqg, zqh]
     refine lPv 7 (some 47) (.int .i64 (i : Int)) (keep_of hH) ?_
     try simp only [Act.put, zqf, zqg, zqh]
     refine lPq 8 (some 48) (v := ?_) rfl ?_ (keep_of hH) ?_
     rotate_left
     ·intro w; go_simp <;> with_reducible rfl
     try simp only [Act.put, zqf, zqg, zqh]
     refine lTq 9 (some 49) (v := ?_) rfl ?_ hH ?_
     rotate_left
     ·intro w hSw; (try dsimp only at hSw); go_simp <;> with_reducible rfl
     try simp only [Act.put, zqf, zqg, zqh]
     refine lPv 10 (some 50) (.agg #[.int .i64 (km : Int), .int .i64 (kf : Int), .bool false]) (keep_of hH) ?_
     try simp only [Act.put, zqf, zqg, zqh]
     refine with_G (G0 := wpAnyL _ _ _ _ _ _) ?_
     intro G hG a0 hA
     have Z0 : Kept (∀ (b16 : Nat) (wq : World), Hid (Mem w wq [cellsR b16 85 #[.int .i64 (km : Int), .int .i64 (kf : Int), .bool false], rowR 85 3 (.slice aO i cO) i (ccells (((objP Y.labels X.labels ys xs).take i).map (mkC false))), cellsR b10 33 #[.int .i64 Y.kind, .string Y.name, .slice (some ⟨bf, of, none⟩) Y.args.length cy, .slice (some ⟨bl, ol, none⟩) Y.labels.length dy, .bool Y.isOpen], cellsR b11 33 #[.int .i64 X.kind, .string X.name, .slice (some ⟨bm, om, none⟩) X.args.length cx, .slice lx X.labels.length dx, .bool X.isOpen], cellsR w.heap.size 85 #[ca, cb, .bool false]]) → G 0 (bt 13 8191) (a0.put (some 16) (.pointer (some ⟨b16, 0, none⟩))) wq) := ⟨by
      intro b16 wq HC
      refine into_G hG ?_
      rw [hA.out]
      try simp only [Act.put, zqf, zqg, zqh]
      refine lDone (by kernel_rfl) ?_
      clear hA hG
      have ct2 := HC.out.cell 4 rfl 2 rfl
      have t0 := HC.out.cell 0 rfl 0 rfl
      have t1 := HC.out.cell 0 rfl 1 rfl
      have t2 := HC.out.cell 0 rfl 2 rfl
      have MB := Tre.hid (HC.out.allocRow #[.int .i64 (km : Int), .int .i64 (kf : Int), .bool false] 85 3 1 (by unfold maxLen; omega) rfl)
      clear HC
      go_wp2_with (at_builtin; refine wpList_append_row _ rfl _ _ 86 rfl 85 ji _ 3 24 Tryz.underlying86 L1.out L2.out L3.out L4.out rfl (by omega) (.slice aO i cO) i (ccells (((objP Y.labels X.labels ys xs).take i).map (mkC false))) rfl (MB.out.row 2 rfl) (some ⟨wq.heap.size, 0, none⟩) 1 1 [.int .i64 (km : Int), .int .i64 (kf : Int), .bool false] rfl ⟨rfl, fun j u hj => ⟨_, 0, rfl, by rw [Nat.zero_add]; exact MB.out.cellAt 0 rfl j hj⟩⟩ (by simp [Value.oneCell']) (by unfold maxLen; omega) (by omega) ?_; intro v' w9 hown4 hgrow4 hat4; have M4 := MB.out.grow 2 rfl hgrow4 hown4 hat4; obtain ⟨a4, c4, rfl, _⟩ := M4.val 2 rfl; have HM4 := Tre.hid M4; clear M4 hown4 hgrow4 hat4)
      go_roundw
      case rel =>
       refine ⟨i + 1, a4, c4, by omega, rfl, by go_num, ?_, ?_⟩
       ·show ∀ s ∈ _, _
        intro s' hs'
        rw [List.take_add_one, hsi.out] at hs'
        rcases List.mem_append.1 hs' with h | h
        ·exact hI1.out s' h
        ·simp at h; subst h; exact hsm.out
       ·show Mem _ _ _
        rw [HZS.out, List.map_append, ccells_append]
        exact ((HM4.out.del 0).del 0)
      case measure => simp [intOf]; omega
     ⟩
     have Z1 : Kept (∀ (b16 : Nat) (wq : World), Hid (Mem w wq [cellsR b16 85 #[.int .i64 0, .int .i64 0, .bool false], rowR 85 3 (.slice aO i cO) i (ccells (((objP Y.labels X.labels ys xs).take i).map (mkC false))), cellsR b10 33 #[.int .i64 Y.kind, .string Y.name, .slice (some ⟨bf, of, none⟩) Y.args.length cy, .slice (some ⟨bl, ol, none⟩) Y.labels.length dy, .bool Y.isOpen], cellsR b11 33 #[.int .i64 X.kind, .string X.name, .slice (some ⟨bm, om, none⟩) X.args.length cx, .slice lx X.labels.length dx, .bool X.isOpen], cellsR w.heap.size 85 #[ca, cb, .bool false]]) → G 1 (bt 13 4095) (a0.put (some 16) (.pointer (some ⟨b16, 0, none⟩))) wq) := ⟨by
      intro b16 wq HC
      refine into_G hG ?_
      rw [hA.out]
      try simp only [Act.put, zqf, zqg, zqh]
      have hH := cS.is (w := wq) (⟨HC.out.cell 3 rfl 2 rfl, HC.out.cell 2 rfl 2 rfl, cell_below HC.out.below HCM.out, cell_below HC.out.below HCF.out⟩)
      refine lOne 12 (by kernel_rfl) ?_
      ·
       refine (LFall.op (by kernel_rfl) (fun K hK => ?_))
       have z0 := HC.out.free 0 rfl 0
       have z1 := HC.out.free 0 rfl 1
       have z2 := HC.out.free 0 rfl 2
       have y0 := HC.out.cell 0 rfl 0 rfl
       have y1 := HC.out.cell 0 rfl 1 rfl
       have y2 := HC.out.cell 0 rfl 2 rfl
       have HN := Tre.hid (((HC.out.setCell 0 rfl 0 (.int .i64 (km : Int))).setCell 0 rfl 1 (.int .i64 (kf : Int))).setCell 0 rfl 2 (.bool false))
       go_simp
       clear z0 z1 z2 y0 y1 y2
       generalize hw : World.setCell _ ⟨b16, 2, none⟩ _ = wr at HN ⊢
       clear hw
       refine hK.out _ _ ?_
       exact outof_G hG (Z0.out b16 wr HN) (by kernel_rfl) (by rw [hA.out]; try kernel_rfl)
     ⟩
     have Z2 : Kept (∀ (wq : World), Hid (Mem w wq [rowR 85 3 (.slice aO i cO) i (ccells (((objP Y.labels X.labels ys xs).take i).map (mkC false))), cellsR b10 33 #[.int .i64 Y.kind, .string Y.name, .slice (some ⟨bf, of, none⟩) Y.args.length cy, .slice (some ⟨bl, ol, none⟩) Y.labels.length dy, .bool Y.isOpen], cellsR b11 33 #[.int .i64 X.kind, .string X.name, .slice (some ⟨bm, om, none⟩) X.args.length cx, .slice lx X.labels.length dx, .bool X.isOpen], cellsR w.heap.size 85 #[ca, cb, .bool false]]) → G 2 (bt 13 2047) (a0) wq) := ⟨by
      intro  wq HC
      refine into_G hG ?_
      rw [hA.out]
      have hH := cS.is (w := wq) (⟨HC.out.cell 2 rfl 2 rfl, HC.out.cell 1 rfl 2 rfl, cell_below HC.out.below HCM.out, cell_below HC.out.below HCF.out⟩)
      refine lOne 11 (by kernel_rfl) ?_
      ·
       have HN := Tre.hid (HC.out.allocR #[.int .i64 0, .int .i64 0, .bool false] 85)
       have hH2 := cS.is (w := (wq.alloc (.cells #[.int .i64 0, .int .i64 0, .bool false] 85))) (⟨HN.out.cell 3 rfl 2 rfl, HN.out.cell 2 rfl 2 rfl, cell_below HN.out.below HCM.out, cell_below HN.out.below HCF.out⟩)
       refine LStep.made (some 16) (.pointer (some ⟨wq.heap.size, 0, none⟩)) _ (by kernel_rfl) (by kernel_rfl) hH2 ?_
       exact outof_G hG (Z1.out wq.heap.size _ HN) (by kernel_rfl) (by rw [hA.out]; try kernel_rfl)
     ⟩
     exact Z2.out  wq0 HC
    ·have HSR := Tre.hid (search_none lx dx X.labels s _ (HMS.out.below HI.out.below) hsm (by have := HML2.out; omega))
     have HNO : Hid (¬ ∀ s ∈ Y.labels, s ∈ X.labels) := fun h => hsm (h s (List.mem_of_getElem? hsi.out))
     go_wp2_with fail
     refine HSR.out.mono ?_
     rintro e wq1 ⟨⟨kk, rfl⟩, bq⟩
     have HB := Tre.hid (HI.out.quiet bq).below
     clear bq HSR HI m3 hlc
     go_wp2_with fail
     go_ret2
     exact .inr ⟨_, rfl, HNO.out, HB.out⟩
   ·have e : i = Y.labels.length := by omega
    subst e
    have HTA : Hid ((objP Y.labels X.labels ys xs).take Y.labels.length = objP Y.labels X.labels ys xs) := List.take_of_length_le (by rw [objP_len]; exact Nat.le_refl _)
    have HA : Hid (∀ s ∈ Y.labels, s ∈ X.labels) := by have := hI1.out; rw [List.take_length] at this; exact this
    have HR : Hid (Mem w wr [rowR 85 3 (.slice aO Y.labels.length cO) Y.labels.length (ccells ((objP Y.labels X.labels ys xs).map (mkC false)))]) := by have h := ((HI.out.del 1).del 1).del 1; rw [HTA.out] at h; exact h
    go_wp2_with fail
    go_ret2
    exact .inl ⟨_, rfl, HA.out, by rw [objP_len]; exact HR.out⟩
 ⟩
 have Z1 : Kept (∀ (b10 : Nat) (b11 : Nat) (wq : World), Hid (Mem w wq [cellsR b10 33 #[.int .i64 Y.kind, .string Y.name, .slice ay Y.args.length cy, .slice ly Y.labels.length dy, .bool Y.isOpen], cellsR b11 33 #[.int .i64 0, .string { data := #[] }, .slice none 0 0, .slice none 0 0, .bool false], cellsR (w.heap.size + 2) 33 #[.int .i64 Y.kind, .string Y.name, .slice ay Y.args.length cy, .slice ly Y.labels.length dy, .bool Y.isOpen], cellsR (w.heap.size + 1) 33 #[.int .i64 X.kind, .string X.name, .slice ax X.args.length cx, .slice lx X.labels.length dx, .bool X.isOpen], cellsR w.heap.size 85 #[ca, cb, .bool false]]) → G 1 (bt 6 31) ((a0.put (some 10) (.pointer (some ⟨b10, 0, none⟩))).put (some 11) (.pointer (some ⟨b11, 0, none⟩))) wq) := ⟨by
  intro b10 b11 wq HC
  refine into_G hG ?_
  rw [hA.out]
  try simp only [Act.put, zqf, zqg, zqh]
  have hH := cS.is (w := wq) (⟨HC.out.cell 3 rfl 0 rfl, HC.out.cell 3 rfl 1 rfl, HC.out.cell 3 rfl 2 rfl, HC.out.cell 3 rfl 3 rfl, HC.out.cell 3 rfl 4 rfl, HC.out.cell 2 rfl 0 rfl, HC.out.cell 2 rfl 1 rfl, HC.out.cell 2 rfl 2 rfl, HC.out.cell 2 rfl 3 rfl, HC.out.cell 2 rfl 4 rfl⟩)
  refine lOne 5 (by kernel_rfl) ?_
  ·
   refine (LFall.op (by kernel_rfl) (fun K hK => ?_))
   have z0 := HC.out.free 1 rfl 0
   have z1 := HC.out.free 1 rfl 1
   have z2 := HC.out.free 1 rfl 2
   have z3 := HC.out.free 1 rfl 3
   have z4 := HC.out.free 1 rfl 4
   obtain ⟨y0, y1, y2, y3, y4⟩ := five HC.out 1 rfl
   have HN := Tre.hid (((((HC.out.setCell 1 rfl 0 (.int .i64 X.kind)).setCell 1 rfl 1 (.string X.name)).setCell 1 rfl 2 (.slice ax X.args.length cx)).setCell 1 rfl 3 (.slice lx X.labels.length dx)).setCell 1 rfl 4 (.bool X.isOpen))
   go_simp
   clear z0 z1 z2 z3 z4 y0 y1 y2 y3 y4
   generalize hw : World.setCell _ ⟨b11, 4, none⟩ _ = wr at HN ⊢
   clear hw
   refine hK.out _ _ ?_
   exact outof_G hG (Z0.out b10 b11 wr HN) (by kernel_rfl) (by rw [hA.out]; try kernel_rfl)
 ⟩
 have Z2 : Kept (∀ (b10 : Nat) (b11 : Nat) (wq : World), Hid (Mem w wq [cellsR b10 33 #[.int .i64 0, .string { data := #[] }, .slice none 0 0, .slice none 0 0, .bool false], cellsR b11 33 #[.int .i64 0, .string { data := #[] }, .slice none 0 0, .slice none 0 0, .bool false], cellsR (w.heap.size + 2) 33 #[.int .i64 Y.kind, .string Y.name, .slice ay Y.args.length cy, .slice ly Y.labels.length dy, .bool Y.isOpen], cellsR (w.heap.size + 1) 33 #[.int .i64 X.kind, .string X.name, .slice ax X.args.length cx, .slice lx X.labels.length dx, .bool X.isOpen], cellsR w.heap.size 85 #[ca, cb, .bool false]]) → G 2 (bt 6 15) ((a0.put (some 10) (.pointer (some ⟨b10, 0, none⟩))).put (some 11) (.pointer (some ⟨b11, 0, none⟩))) wq) := ⟨by
  intro b10 b11 wq HC
  refine into_G hG ?_
  rw [hA.out]
  try simp only [Act.put, zqf, zqg, zqh]
  have hH := cS.is (w := wq) (⟨HC.out.cell 3 rfl 0 rfl, HC.out.cell 3 rfl 1 rfl, HC.out.cell 3 rfl 2 rfl, HC.out.cell 3 rfl 3 rfl, HC.out.cell 3 rfl 4 rfl, HC.out.cell 2 rfl 0 rfl, HC.out.cell 2 rfl 1 rfl, HC.out.cell 2 rfl 2 rfl, HC.out.cell 2 rfl 3 rfl, HC.out.cell 2 rfl 4 rfl⟩)
  refine lOne 4 (by kernel_rfl) ?_
  ·
   refine (LStep.op (fun K hK => ?_))
   have z0 := HC.out.free 0 rfl 0
   have z1 := HC.out.free 0 rfl 1
   have z2 := HC.out.free 0 rfl 2
   have z3 := HC.out.free 0 rfl 3
   have z4 := HC.out.free 0 rfl 4
   obtain ⟨y0, y1, y2, y3, y4⟩ := five HC.out 0 rfl
   have HN := Tre.hid (((((HC.out.setCell 0 rfl 0 (.int .i64 Y.kind)).setCell 0 rfl 1 (.string Y.name)).setCell 0 rfl 2 (.slice ay Y.args.length cy)).setCell 0 rfl 3 (.slice ly Y.labels.length dy)).setCell 0 rfl 4 (.bool Y.isOpen))
   go_simp
   clear z0 z1 z2 z3 z4 y0 y1 y2 y3 y4
   generalize hw : World.setCell _ ⟨b10, 4, none⟩ _ = wr at HN ⊢
   clear hw
   refine hK.out _ _ ?_ (fun hH2 => ?_)
   ·exact ⟨HN.out.cell 3 rfl 0 rfl, HN.out.cell 3 rfl 1 rfl, HN.out.cell 3 rfl 2 rfl, HN.out.cell 3 rfl 3 rfl, HN.out.cell 3 rfl 4 rfl, HN.out.cell 2 rfl 0 rfl, HN.out.cell 2 rfl 1 rfl, HN.out.cell 2 rfl 2 rfl, HN.out.cell 2 rfl 3 rfl, HN.out.cell 2 rfl 4 rfl⟩
   exact outof_G hG (Z1.out b10 b11 wr HN) (by kernel_rfl) (by rw [hA.out]; try kernel_rfl)
 ⟩
 have Z3 : Kept (∀ (b10 : Nat) (wq : World), Hid (Mem w wq [cellsR b10 33 #[.int .i64 0, .string { data := #[] }, .slice none 0 0, .slice none 0 0, .bool false], cellsR (w.heap.size + 2) 33 #[.int .i64 Y.kind, .string Y.name, .slice ay Y.args.length cy, .slice ly Y.labels.length dy, .bool Y.isOpen], cellsR (w.heap.size + 1) 33 #[.int .i64 X.kind, .string X.name, .slice ax X.args.length cx, .slice lx X.labels.length dx, .bool X.isOpen], cellsR w.heap.size 85 #[ca, cb, .bool false]]) → G 3 (bt 6 7) (a0.put (some 10) (.pointer (some ⟨b10, 0, none⟩))) wq) := ⟨by
  intro b10 wq HC
  refine into_G hG ?_
  rw [hA.out]
  have hH := cS.is (w := wq) (⟨HC.out.cell 2 rfl 0 rfl, HC.out.cell 2 rfl 1 rfl, HC.out.cell 2 rfl 2 rfl, HC.out.cell 2 rfl 3 rfl, HC.out.cell 2 rfl 4 rfl, HC.out.cell 1 rfl 0 rfl, HC.out.cell 1 rfl 1 rfl, HC.out.cell 1 rfl 2 rfl, HC.out.cell 1 rfl 3 rfl, HC.out.cell 1 rfl 4 rfl⟩)
  refine lOne 3 (by kernel_rfl) ?_
  ·
   have HN := Tre.hid (HC.out.allocR #[.int .i64 0, .string { data := #[] }, .slice none 0 0, .slice none 0 0, .bool false] 33)
   have HC := Tre.hid ((HN.out.front 0 rfl).front 1 rfl)
   clear HN
   have hH2 := cS.is (w := (wq.alloc (.cells #[.int .i64 0, .string { data := #[] }, .slice none 0 0, .slice none 0 0, .bool false] 33))) (⟨HC.out.cell 3 rfl 0 rfl, HC.out.cell 3 rfl 1 rfl, HC.out.cell 3 rfl 2 rfl, HC.out.cell 3 rfl 3 rfl, HC.out.cell 3 rfl 4 rfl, HC.out.cell 2 rfl 0 rfl, HC.out.cell 2 rfl 1 rfl, HC.out.cell 2 rfl 2 rfl, HC.out.cell 2 rfl 3 rfl, HC.out.cell 2 rfl 4 rfl⟩)
   refine LStep.made (some 11) (.pointer (some ⟨wq.heap.size, 0, none⟩)) _ (by kernel_rfl) (by kernel_rfl) hH2 ?_
   exact outof_G hG (Z2.out b10 wq.heap.size _ HC) (by kernel_rfl) (by rw [hA.out]; try kernel_rfl)
 ⟩
 have Z4 : Kept (∀ (b11 : Nat) (wq : World), Hid (Mem w wq [cellsR b11 33 #[.int .i64 0, .string { data := #[] }, .slice none 0 0, .slice none 0 0, .bool false], cellsR (w.heap.size + 2) 33 #[.int .i64 Y.kind, .string Y.name, .slice ay Y.args.length cy, .slice ly Y.labels.length dy, .bool Y.isOpen], cellsR (w.heap.size + 1) 33 #[.int .i64 X.kind, .string X.name, .slice ax X.args.length cx, .slice lx X.labels.length dx, .bool X.isOpen], cellsR w.heap.size 85 #[ca, cb, .bool false]]) → G 3 (bt 6 11) (a0.put (some 11) (.pointer (some ⟨b11, 0, none⟩))) wq) := ⟨by
  intro b11 wq HC
  refine into_G hG ?_
  rw [hA.out]
  have hH := cS.is (w := wq) (⟨HC.out.cell 2 rfl 0 rfl, HC.out.cell 2 rfl 1 rfl, HC.out.cell 2 rfl 2 rfl, HC.out.cell 2 rfl 3 rfl, HC.out.cell 2 rfl 4 rfl, HC.out.cell 1 rfl 0 rfl, HC.out.cell 1 rfl 1 rfl, HC.out.cell 1 rfl 2 rfl, HC.out.cell 1 rfl 3 rfl, HC.out.cell 1 rfl 4 rfl⟩)
  refine lOne 2 (by kernel_rfl) ?_
  ·
   have HN := Tre.hid (HC.out.allocR #[.int .i64 0, .string { data := #[] }, .slice none 0 0, .slice none 0 0, .bool false] 33)
   have hH2 := cS.is (w := (wq.alloc (.cells #[.int .i64 0, .string { data := #[] }, .slice none 0 0, .slice none 0 0, .bool false] 33))) (⟨HN.out.cell 3 rfl 0 rfl, HN.out.cell 3 rfl 1 rfl, HN.out.cell 3 rfl 2 rfl, HN.out.cell 3 rfl 3 rfl, HN.out.cell 3 rfl 4 rfl, HN.out.cell 2 rfl 0 rfl, HN.out.cell 2 rfl 1 rfl, HN.out.cell 2 rfl 2 rfl, HN.out.cell 2 rfl 3 rfl, HN.out.cell 2 rfl 4 rfl⟩)
   refine LStep.made (some 10) (.pointer (some ⟨wq.heap.size, 0, none⟩)) _ (by kernel_rfl) (by kernel_rfl) hH2 ?_
   exact outof_G hG (Z2.out wq.heap.size b11 _ HN) (by kernel_rfl) (by rw [hA.out]; try kernel_rfl)
 ⟩
 have Z5 : Kept (∀ (wq : World), Hid (Mem w wq [cellsR (w.heap.size + 2) 33 #[.int .i64 Y.kind, .string Y.name, .slice ay Y.args.length cy, .slice ly Y.labels.length dy, .bool Y.isOpen], cellsR (w.heap.size + 1) 33 #[.int .i64 X.kind, .string X.name, .slice ax X.args.length cx, .slice lx X.labels.length dx, .bool X.isOpen], cellsR w.heap.size 85 #[ca, cb, .bool false]]) → G 4 (bt 6 3) (a0) wq) := ⟨by
  intro  wq HC
  refine into_G hG ?_
  rw [hA.out]
  have hH := cS.is (w := wq) (⟨HC.out.cell 1 rfl 0 rfl, HC.out.cell 1 rfl 1 rfl, HC.out.cell 1 rfl 2 rfl, HC.out.cell 1 rfl 3 rfl, HC.out.cell 1 rfl 4 rfl, HC.out.cell 0 rfl 0 rfl, HC.out.cell 0 rfl 1 rfl, HC.out.cell 0 rfl 2 rfl, HC.out.cell 0 rfl 3 rfl, HC.out.cell 0 rfl 4 rfl⟩)
  refine lTwo 2 3 (by kernel_rfl) ?_ ?_
  ·
   have HN := Tre.hid (HC.out.allocR #[.int .i64 0, .string { data := #[] }, .slice none 0 0, .slice none 0 0, .bool false] 33)
   have hH2 := cS.is (w := (wq.alloc (.cells #[.int .i64 0, .string { data := #[] }, .slice none 0 0, .slice none 0 0, .bool false] 33))) (⟨HN.out.cell 2 rfl 0 rfl, HN.out.cell 2 rfl 1 rfl, HN.out.cell 2 rfl 2 rfl, HN.out.cell 2 rfl 3 rfl, HN.out.cell 2 rfl 4 rfl, HN.out.cell 1 rfl 0 rfl, HN.out.cell 1 rfl 1 rfl, HN.out.cell 1 rfl 2 rfl, HN.out.cell 1 rfl 3 rfl, HN.out.cell 1 rfl 4 rfl⟩)
   refine LStep.made (some 10) (.pointer (some ⟨wq.heap.size, 0, none⟩)) _ (by kernel_rfl) (by kernel_rfl) hH2 ?_
   exact outof_G hG (Z3.out wq.heap.size _ HN) (by kernel_rfl) (by rw [hA.out]; try kernel_rfl)
  ·
   have HN := Tre.hid (HC.out.allocR #[.int .i64 0, .string { data := #[] }, .slice none 0 0, .slice none 0 0, .bool false] 33)
   have hH2 := cS.is (w := (wq.alloc (.cells #[.int .i64 0, .string { data := #[] }, .slice none 0 0, .slice none 0 0, .bool false] 33))) (⟨HN.out.cell 2 rfl 0 rfl, HN.out.cell 2 rfl 1 rfl, HN.out.cell 2 rfl 2 rfl, HN.out.cell 2 rfl 3 rfl, HN.out.cell 2 rfl 4 rfl, HN.out.cell 1 rfl 0 rfl, HN.out.cell 1 rfl 1 rfl, HN.out.cell 1 rfl 2 rfl, HN.out.cell 1 rfl 3 rfl, HN.out.cell 1 rfl 4 rfl⟩)
   refine LStep.made (some 11) (.pointer (some ⟨wq.heap.size, 0, none⟩)) _ (by kernel_rfl) (by kernel_rfl) hH2 ?_
   exact outof_G hG (Z4.out wq.heap.size _ HN) (by kernel_rfl) (by rw [hA.out]; try kernel_rfl)
 ⟩
 exact Z5.out  wq0 HC
set_option maxRecDepth 100000 in
set_option maxHeartbeats 16000000 in
theorem objects_yes (X Y : Tre.Node) (ax ay lx ly : Option Addr) (cx cy dx dy : Nat) (xs ys : List Nat) (p ca cb : Value) (w : World) (hxa : IntsAt w ax X.args) (hxs : StrsAt w lx X.labels) (hya : IntsAt w ay Y.args) (hys : StrsAt w ly Y.labels)
  (hxe : X.args = xs.map fun k : Nat => (k : Int)) (hye : Y.args = ys.map fun k : Nat => (k : Int)) (hxl : X.labels.length = X.args.length) (hyl : Y.labels.length = Y.args.length) (hr : rising Y.labels = true) (bx : X.args.length ≤ 2097152) (by_ : Y.args.length ≤ 2097152) :
  Calls Tryz.prog 54 #[p, .agg #[ca, cb, .bool true], .agg #[.int .i64 X.kind, .string X.name, .slice ax X.args.length cx, .slice lx X.labels.length dx, .bool X.isOpen], .agg #[.int .i64 Y.kind, .string Y.name, .slice ay Y.args.length cy, .slice ly Y.labels.length dy, .bool Y.isOpen]] w fun e w' =>
   (∃ v, e = .returned (.tuple #[v, .bool true]) ∧ (∀ s ∈ X.labels, s ∈ Y.labels) ∧ Mem w w' [rowR 85 3 v (objP X.labels Y.labels xs ys).length (ccells ((objP X.labels Y.labels xs ys).map (mkC true)))]) ∨
   (∃ v, e = .returned (.tuple #[v, .bool false]) ∧ (¬ ∀ s ∈ X.labels, s ∈ Y.labels) ∧ Below w.heap.size w w') := by
 have M0 := (((Mem.nil w).allocR #[ca, cb, .bool true] 85).allocR #[.int .i64 X.kind, .string X.name, .slice ax X.args.length cx, .slice lx X.labels.length dx, .bool X.isOpen] 33).allocR #[.int .i64 Y.kind, .string Y.name, .slice ay Y.args.length cy, .slice ly Y.labels.length dy, .bool Y.isOpen] 33
 simp only [heapSize_alloc] at M0
 have HM0 := Tre.hid M0
 have HFS := Tre.hid hxs
 have HMS := Tre.hid hys
 have HFI := Tre.hid hxa
 have HMA := Tre.hid hya
 have HFE := Tre.hid hxe
 have HME := Tre.hid hye
 have HFA : Hid ((X.args.length : Int) = (X.labels.length : Int)) := by show _ = _; omega
 have HMAL : Hid ((Y.args.length : Int) = (Y.labels.length : Int)) := by show _ = _; omega
 have HFL : Hid (xs.length = X.labels.length) := by show _ = _; rw [hxl, hxe, List.length_map]
 have HML : Hid (ys.length = Y.labels.length) := by show _ = _; rw [hyl, hye, List.length_map]
 have HML2 : Hid (Y.labels.length ≤ 2097152) := by show _ ≤ _; omega
 have HRM := Tre.hid hr
 have hfl : X.labels.length ≤ 2097152 := by omega
 obtain ⟨ji, K1, K2, K3, K4⟩ := info_parts infoSC
 have L1 := Tre.hid K1
 have L2 := Tre.hid K2
 have L3 := Tre.hid K3
 have L4 := Tre.hid K4
 clear M0 hxa hxs hya hys hxe hye hxl hyl hr bx by_ K1 K2 K3 K4
 go_enter Tryz.func54, Tryz.ntmps54
 go_upto_region 1 with fail
 have cS : Cond (fun w' => w'.cell? ⟨w.heap.size + 1, 0, none⟩ = some (.int .i64 X.kind) ∧ w'.cell? ⟨w.heap.size + 1, 1, none⟩ = some (.string X.name) ∧ w'.cell? ⟨w.heap.size + 1, 2, none⟩ = some (.slice ax X.args.length cx) ∧ w'.cell? ⟨w.heap.size + 1, 3, none⟩ = some (.slice lx X.labels.length dx) ∧ w'.cell? ⟨w.heap.size + 1, 4, none⟩ = some (.bool X.isOpen) ∧ w'.cell? ⟨w.heap.size + 2, 0, none⟩ = some (.int .i64 Y.kind) ∧ w'.cell? ⟨w.heap.size + 2, 1, none⟩ = some (.string Y.name) ∧ w'.cell? ⟨w.heap.size + 2, 2, none⟩ = some (.slice ay Y.args.length cy) ∧ w'.cell? ⟨w.heap.size + 2, 3, none⟩ = some (.slice ly Y.labels.length dy) ∧ w'.cell? ⟨w.heap.size + 2, 4, none⟩ = some (.bool Y.isOpen)) := ⟨⟩
 refine cS.keep [5] ?_ (fun hH => ?_)
 ·exact ⟨HM0.out.drew.cell 1 rfl 0 rfl, HM0.out.drew.cell 1 rfl 1 rfl, HM0.out.drew.cell 1 rfl 2 rfl, HM0.out.drew.cell 1 rfl 3 rfl, HM0.out.drew.cell 1 rfl 4 rfl, HM0.out.drew.cell 0 rfl 0 rfl, HM0.out.drew.cell 0 rfl 1 rfl, HM0.out.drew.cell 0 rfl 2 rfl, HM0.out.drew.cell 0 rfl 3 rfl, HM0.out.drew.cell 0 rfl 4 rfl⟩
 have HC := Tre.hid HM0.out.drew
 generalize hq : World.drew _ = wq0 at HC hH ⊢
 clear hq
 try simp only [Act.put, zqf, zqg, zqh]
 refine lTq 0 (some 17) (v := ?_) rfl ?_ hH ?_
 rotate_left
 ·intro w hSw; (try dsimp only at hSw); go_simp <;> with_reducible rfl
 try simp only [Act.put, zqf, zqg, zqh]
 try simp only [Act.put, zqf, zqg, zqh]
 refine lTq 1 (some 18) (v := ?_) rfl ?_ hH ?_
 rotate_left
 ·intro w hSw; (try dsimp only at hSw); go_simp <;> with_reducible rfl
 try simp only [Act.put, zqf, zqg, zqh]
 try simp only [Act.put, zqf, zqg, zqh]
 refine with_G (G0 := wpAnyL _ _ _ _ _ _) ?_
 intro G hG a0 hA
 have Z0 : Kept (∀ (b10 : Nat) (b11 : Nat) (wq : World), Hid (Mem w wq [cellsR b10 33 #[.int .i64 Y.kind, .string Y.name, .slice ay Y.args.length cy, .slice ly Y.labels.length dy, .bool Y.isOpen], cellsR b11 33 #[.int .i64 X.kind, .string X.name, .slice ax X.args.length cx, .slice lx X.labels.length dx, .bool X.isOpen], cellsR (w.heap.size + 2) 33 #[.int .i64 Y.kind, .string Y.name, .slice ay Y.args.length cy, .slice ly Y.labels.length dy, .bool Y.isOpen], cellsR (w.heap.size + 1) 33 #[.int .i64 X.kind, .string X.name, .slice ax X.args.length cx, .slice lx X.labels.length dx, .bool X.isOpen], cellsR w.heap.size 85 #[ca, cb, .bool true]]) → G 0 (bt 6 63) ((a0.put (some 10) (.pointer (some ⟨b10, 0, none⟩))).put (some 11) (.pointer (some ⟨b11, 0, none⟩))) wq) := ⟨by
  intro b10 b11 wq HC
  refine into_G hG ?_
  rw [hA.out]
  try simp only [Act.put, zqf, zqg, zqh]
  refine lDone (by kernel_rfl) ?_
  clear hA hG
  have HQ1 := HC
  clear HC
  have ct := HQ1.out.cell 4 rfl 2 rfl
  go_upto_region 3 with fail
  have cS : Cond (fun w' => w'.cell? ⟨w.heap.size + 1, 0, none⟩ = some (.int .i64 X.kind) ∧ w'.cell? ⟨w.heap.size + 1, 1, none⟩ = some (.string X.name) ∧ w'.cell? ⟨w.heap.size + 1, 2, none⟩ = some (.slice ax X.args.length cx) ∧ w'.cell? ⟨w.heap.size + 1, 3, none⟩ = some (.slice lx X.labels.length dx) ∧ w'.cell? ⟨w.heap.size + 1, 4, none⟩ = some (.bool X.isOpen) ∧ w'.cell? ⟨w.heap.size + 2, 0, none⟩ = some (.int .i64 Y.kind) ∧ w'.cell? ⟨w.heap.size + 2, 1, none⟩ = some (.string Y.name) ∧ w'.cell? ⟨w.heap.size + 2, 2, none⟩ = some (.slice ay Y.args.length cy) ∧ w'.cell? ⟨w.heap.size + 2, 3, none⟩ = some (.slice ly Y.labels.length dy) ∧ w'.cell? ⟨w.heap.size + 2, 4, none⟩ = some (.bool Y.isOpen)) := ⟨⟩
  refine cS.keep [3] ?_ (fun hH => ?_)
  ·exact ⟨HQ1.out.drew.cell 3 rfl 0 rfl, HQ1.out.drew.cell 3 rfl 1 rfl, HQ1.out.drew.cell 3 rfl 2 rfl, HQ1.out.drew.cell 3 rfl 3 rfl, HQ1.out.drew.cell 3 rfl 4 rfl, HQ1.out.drew.cell 2 rfl 0 rfl, HQ1.out.drew.cell 2 rfl 1 rfl, HQ1.out.drew.cell 2 rfl 2 rfl, HQ1.out.drew.cell 2 rfl 3 rfl, HQ1.out.drew.cell 2 rfl 4 rfl⟩
  have HC := Tre.hid HQ1.out.drew
  generalize hq : World.drew _ = wq0 at HC hH ⊢
  clear hq
  try simp only [Act.put, zqf, zqg, zqh]
  refine lTq 0 (some 21) (v := ?_) rfl ?_ hH ?_
  rotate_left
  ·intro w hSw; (try dsimp only at hSw); go_simp <;> with_reducible rfl
  try simp only [Act.put, zqf, zqg, zqh]
  try simp only [Act.put, zqf, zqg, zqh]
  refine lTq 1 (some 22) (v := ?_) rfl ?_ hH ?_
  rotate_left
  ·intro w hSw; (try dsimp only at hSw); go_simp <;> with_reducible rfl
  try simp only [Act.put, zqf, zqg, zqh]
  try simp only [Act.put, zqf, zqg, zqh]
  refine with_G (G0 := wpAnyL _ _ _ _ _ _) ?_
  intro G hG a0 hA
  have Z0 : Kept (∀ (wq : World), Hid (Mem w wq [cellsR b10 33 #[.int .i64 X.kind, .string X.name, .slice ax X.args.length cx, .slice lx X.labels.length dx, .bool X.isOpen], cellsR b11 33 #[.int .i64 Y.kind, .string Y.name, .slice ay Y.args.length cy, .slice ly Y.labels.length dy, .bool Y.isOpen], cellsR (w.heap.size + 2) 33 #[.int .i64 Y.kind, .string Y.name, .slice ay Y.args.length cy, .slice ly Y.labels.length dy, .bool Y.isOpen], cellsR (w.heap.size + 1) 33 #[.int .i64 X.kind, .string X.name, .slice ax X.args.length cx, .slice lx X.labels.length dx, .bool X.isOpen], cellsR w.heap.size 85 #[ca, cb, .bool true]]) → G 0 (bt 4 15) (a0) wq) := ⟨by
   intro  wq HC
   refine into_G hG ?_
   rw [hA.out]
   try simp only [Act.put, zqf, zqg, zqh]
   refine lDone (by kernel_rfl) ?_
   clear hA hG
   have HQ := HC
   clear HC
   have l3 := HQ.out.cell 0 rfl 3 rfl
   have HL0 : Hid (Mem w wq [rowR 85 3 (.slice none 0 0) 0 (ccells (((objP X.labels Y.labels xs ys).take 0).map (mkC true))), cellsR b10 33 #[.int .i64 X.kind, .string X.name, .slice ax X.args.length cx, .slice lx X.labels.length dx, .bool X.isOpen], cellsR b11 33 #[.int .i64 Y.kind, .string Y.name, .slice ay Y.args.length cy, .slice ly Y.labels.length dy, .bool Y.isOpen], cellsR w.heap.size 85 #[ca, cb, .bool true]]) := HQ.out.addNil 85 3 |>.del 3 |>.del 3
   go_wp2_with fail
   clear l3 HQ
   go_loopw [8, 26] (fun v8 v26 wr => ∃ (i : Nat) (aO : Option Addr) (cO : Nat), i ≤ X.labels.length ∧ v8 = .slice aO i cO ∧ v26 = .int .i64 (i : Int) ∧ Hid (∀ s ∈ X.labels.take i, s ∈ Y.labels) ∧ Hid (Mem w wr [rowR 85 3 (.slice aO i cO) i (ccells (((objP X.labels Y.labels xs ys).take i).map (mkC true))), cellsR b10 33 #[.int .i64 X.kind, .string X.name, .slice ax X.args.length cx, .slice lx X.labels.length dx, .bool X.isOpen], cellsR b11 33 #[.int .i64 Y.kind, .string Y.name, .slice ay Y.args.length cy, .slice ly Y.labels.length dy, .bool Y.isOpen], cellsR w.heap.size 85 #[ca, cb, .bool true]]))
    (fun _ v26 _ => X.labels.length - (intOf v26).toNat)
   case atStart => exact ⟨0, none, 0, Nat.zero_le _, rfl, rfl, fun s hs => by simp at hs, HL0.out⟩
   case round =>
    obtain ⟨i, aO, cO, hi, rfl, rfl, hI1, HI⟩ := hrel
    by_cases hlt : i < X.labels.length
    ·obtain ⟨s, hsi⟩ : ∃ s, Hid (X.labels[i]? = some s) := ⟨_, List.getElem?_eq_getElem hlt⟩
     obtain ⟨kf, hkf⟩ : ∃ x, Hid (xs[i]? = some x) := ⟨_, List.getElem?_eq_getElem (by rw [HFL.out]; exact hlt)⟩
     obtain ⟨bl, ol, rfl, hlc⟩ := (HFS.out.below HI.out.below).at_ i (.string s) (by rw [List.getElem?_map, hsi.out]; rfl)
     have i1 : (0 : Int) ≤ (i : Int) := by omega
     have i2 : (i : Int) < (X.labels.length : Int) := by omega
     have i3 : (i : Int) < (X.args.length : Int) := by rw [HFA.out]; omega
     have m3 := HI.out.cell 2 rfl 3 rfl
     by_cases hsm : s ∈ Y.labels
     ·obtain ⟨k, hk⟩ : ∃ k, Y.labels.idxOf s = k := ⟨_, rfl⟩
      have hks : Y.labels[k]? = some s := by rw [← hk]; exact idxOf_at hsm
      have hkl : k < Y.labels.length := (List.getElem?_eq_some_iff.1 hks).1
      obtain ⟨km, hkm⟩ : ∃ x, Hid (ys[k]? = some x) := ⟨_, List.getElem?_eq_getElem (by rw [HML.out]; exact hkl)⟩
      have HZS : Hid ((objP X.labels Y.labels xs ys).take (i + 1) = (objP X.labels Y.labels xs ys).take i ++ [(kf, km)]) := by
       have hz : (objP X.labels Y.labels xs ys)[i]? = some (kf, km) := objP_at hsi.out hkf.out hk hkm.out
       show _ = _; rw [List.take_add_one, hz]; rfl
      have HSR := Tre.hid (search_any ly dy Y.labels k s _ (HMS.out.below HI.out.below) HRM.out hkl hks (by have := HML2.out; omega))
      obtain ⟨bm, om, rfl, hcm⟩ := HMA.out.at_ k (.int .i64 (km : Int)) (by rw [HME.out, List.getElem?_map, List.getElem?_map, hkm.out]; rfl)
      obtain ⟨bf, of, rfl, hcf⟩ := HFI.out.at_ i (.int .i64 (kf : Int)) (by rw [HFE.out, List.getElem?_map, List.getElem?_map, hkf.out]; rfl)
      have HCM := Tre.hid hcm
      have HCF := Tre.hid hcf
      have k1 : (0 : Int) ≤ (k : Int) := by omega
      have k2 : (k : Int) < (Y.args.length : Int) := by rw [HMAL.out]; omega
      have hsm := Tre.hid hsm
      clear hk hks hcm hcf
      go_wp2_with fail
      refine HSR.out.mono ?_
      rintro e wq1 ⟨rfl, bq⟩
      have HI2 := Tre.hid (HI.out.quiet bq)
      clear bq HSR HI m3 hlc
      go_upto_region 10 with fail
      have cS : Cond (fun w' => w'.cell? ⟨b11, 2, none⟩ = some (.slice (some ⟨bm, om, none⟩) Y.args.length cy) ∧ w'.cell? ⟨b10, 2, none⟩ = some (.slice (some ⟨bf, of, none⟩) X.args.length cx) ∧ w'.cell? ⟨bm, om + k, none⟩ = some (.int .i64 (km : Int)) ∧ w'.cell? ⟨bf, of + i, none⟩ = some (.int .i64 (kf : Int))) := ⟨⟩
      refine cS.keep [12] ?_ (fun hH => ?_)
      ·exact ⟨HI2.out.drew.cell 2 rfl 2 rfl, HI2.out.drew.cell 1 rfl 2 rfl, cell_below HI2.out.drew.below HCM.out, cell_below HI2.out.drew.below HCF.out⟩
      have HC := Tre.hid HI2.out.drew
      generalize hq : World.drew _ = wq0 at HC hH ⊢
      clear hq
      refine lPv 0 (some 40) (.pointer (some ⟨b11, 2, none⟩)) (keep_of hH) ?_
      try simp only [Act.put, zqf, zqg, zqh]
      refine lTq 1 (some 41) (v := ?_) rfl ?_ hH ?_
      rotate_left
      ·intro w hSw; (try dsimp only at hSw); go_simp <;> with_reducible rfl
      try simp only [Act.put, zqf, zqg, zqh]
      refine lPv 2 (some 42) (.int .i64 (k : Int)) (keep_of hH) ?_
      try simp only [Act.put, zqf, zqg, zqh]
      refine lPq 3 (some 43) (v := ?_) rfl ?_ (keep_of hH) ?_
      rotate_left
      ·intro w; go_simp <;> with_reducible rfl
      try simp only [Act.put, zqf, zqg, zqh]
      refine lTq 4 (some 44) (v := ?_) rfl ?_ hH ?_
      rotate_left
      ·intro w hSw; (try dsimp only at hSw); go_simp <;> with_reducible rfl
      try simp only [Act.put, zqf, zqg, zqh]
      refine lPv 5 (some 45) (.pointer (some ⟨b10, 2, none⟩)) (keep_of hH) ?_
      try simp only [Act.put, zqf, zqg, zqh]
      refine lTq 6 (some 46) (v := ?_) rfl ?_ hH ?_
      rotate_left
      ·intro w hSw; (try dsimp only at hSw); go_simp <;> with_reducible rfl
      try simp only [Act.put, zqf, zqg, zqh]
      refine lPv 7 (some 47) (.int .i64 (i : Int)) (keep_of hH) ?_
      try simp only [Act.put, zqf, zqg, zqh]
      refine lPq 8 (some 48) (v := ?_) rfl ?_ (keep_of hH) ?_
      rotate_left
      ·intro w; go_simp <;> with_reducible rfl
      try simp only [Act.put, zqf, zqg, zqh]
      refine lTq 9 (some 49) (v := ?_) rfl ?_ hH ?_
      rotate_left
      ·intro w hSw; (try dsimp only at hSw); go_simp <;> with_reducible rfl
      try simp only [Act.put, zqf, zqg, zqh]
      refine lPv 10 (some 50) (.agg #[.int .i64 (km : Int), .int .i64 (kf : Int), .bool false]) (keep_of hH) ?_
      try simp only [Act.put, zqf, zqg, zqh]
      refine with_G (G0 := wpAnyL _ _ _ _ _ _) ?_
      intro G hG a0 hA
      have Z0 : Kept (∀ (b16 : Nat) (wq : World), Hid (Mem w wq [cellsR b16 85 #[.int .i64 (km : Int), .int .i64 (kf : Int), .bool false], rowR 85 3 (.slice aO i cO) i (ccells (((objP X.labels Y.labels xs ys).take i).map (mkC true))), cellsR b10 33 #[.int .i64 X.kind, .string X.name, .slice (some ⟨bf, of, none⟩) X.args.length cx, .slice (some ⟨bl, ol, none⟩) X.labels.length dx, .bool X.isOpen], cellsR b11 33 #[.int .i64 Y.kind, .string Y.name, .slice (some ⟨bm, om, none⟩) Y.args.length cy, .slice ly Y.labels.length dy, .bool Y.isOpen], cellsR w.heap.size 85 #[ca, cb, .bool true]]) → G 0 (bt 13 8191) (a0.put (some 16) (.pointer (some ⟨b16, 0, none⟩))) wq) := ⟨by
       intro b16 wq HC
       refine into_G hG ?_
       rw [hA.out]
       try simp only [Act.put, zqf, zqg, zqh]
       refine lDone (by kernel_rfl) ?_
       clear hA hG
       have HQ2 := HC
       clear HC
       have ct := HQ2.out.cell 4 rfl 2 rfl
       go_upto_region 12 with fail
       have cS : Cond (fun w' => w'.cell? ⟨b11, 2, none⟩ = some (.slice (some ⟨bm, om, none⟩) Y.args.length cy) ∧ w'.cell? ⟨b10, 2, none⟩ = some (.slice (some ⟨bf, of, none⟩) X.args.length cx) ∧ w'.cell? ⟨bm, om + k, none⟩ = some (.int .i64 (km : Int)) ∧ w'.cell? ⟨bf, of + i, none⟩ = some (.int .i64 (kf : Int))) := ⟨⟩
       refine cS.keep [11] ?_ (fun hH => ?_)
       ·exact ⟨HQ2.out.drew.cell 3 rfl 2 rfl, HQ2.out.drew.cell 2 rfl 2 rfl, cell_below HQ2.out.drew.below HCM.out, cell_below HQ2.out.drew.below HCF.out⟩
       have HC := Tre.hid HQ2.out.drew
       generalize hq : World.drew _ = wq0 at HC hH ⊢
       clear hq
       refine lPv 0 (some 53) (.pointer (some ⟨b10, 2, none⟩)) (keep_of hH) ?_
       try simp only [Act.put, zqf, zqg, zqh]
       refine lTq 1 (some 54) (v := ?_) rfl ?_ hH ?_
       rotate_left
       ·intro w hSw; (try dsimp only at hSw); go_simp <;> with_reducible rfl
       try simp only [Act.put, zqf, zqg, zqh]
       refine lPv 2 (some 55) (.int .i64 (i : Int)) (keep_of hH) ?_
       try simp only [Act.put, zqf, zqg, zqh]
       refine lPq 3 (some 56) (v := ?_) rfl ?_ (keep_of hH) ?_
       rotate_left
       ·intro w; go_simp <;> with_reducible rfl
       try simp only [Act.put, zqf, zqg, zqh]
       refine lTq 4 (some 57) (v := ?_) rfl ?_ hH ?_
       rotate_left
       ·intro w hSw; (try dsimp only at hSw); go_simp <;> with_reducible rfl
       try simp only [Act.put, zqf, zqg, zqh]
       refine lPv 5 (some 58) (.pointer (some ⟨b11, 2, none⟩)) (keep_of hH) ?_
       try simp only [Act.put, zqf, zqg, zqh]
       refine lTq 6 (some 59) (v := ?_) rfl ?_ hH ?_
       rotate_left
       ·intro w hSw; (try dsimp only at hSw); go_simp <;> with_reducible rfl
       try simp only [Act.put, zqf, zqg, zqh]
       refine lPv 7 (some 60) (.int .i64 (k : Int)) (keep_of hH) ?_
       try simp only [Act.put, zqf, zqg, zqh]
       refine lPq 8 (some 61) (v := ?_) rfl ?_ (keep_of hH) ?_
       rotate_left
       ·intro w; go_simp <;> with_reducible rfl
       try simp only [Act.put, zqf, zqg, zqh]
       refine lTq 9 (some 62) (v := ?_) rfl ?_ hH ?_
       rotate_left
       ·intro w hSw; (try dsimp only at hSw); go_simp <;> with_reducible rfl
       try simp only [Act.put, zqf, zqg, zqh]
       refine lPv 10 (some 63) (.agg #[.int .i64 (kf : Int), .int .i64 (km : Int), .bool true]) (keep_of hH) ?_
       try simp only [Act.put, zqf, zqg, zqh]
       refine with_G (G0 := wpAnyL _ _ _ _ _ _) ?_
       intro G hG a0 hA
       have Z0 : Kept (∀ (wq : World), Hid (Mem w wq [cellsR b16 85 #[.int .i64 (kf : Int), .int .i64 (km : Int), .bool true], rowR 85 3 (.slice aO i cO) i (ccells (((objP X.labels Y.labels xs ys).take i).map (mkC true))), cellsR b10 33 #[.int .i64 X.kind, .string X.name, .slice (some ⟨bf, of, none⟩) X.args.length cx, .slice (some ⟨bl, ol, none⟩) X.labels.length dx, .bool X.isOpen], cellsR b11 33 #[.int .i64 Y.kind, .string Y.name, .slice (some ⟨bm, om, none⟩) Y.args.length cy, .slice ly Y.labels.length dy, .bool Y.isOpen], cellsR w.heap.size 85 #[ca, cb, .bool true]]) → G 0 (bt 12 4095) (a0) wq) := ⟨by
        intro  wq HC
        refine into_G hG ?_
        rw [hA.out]
        try simp only [Act.put, zqf, zqg, zqh]
        refine lDone (by kernel_rfl) ?_
        clear hA hG
        have ct2 := HC.out.cell 4 rfl 2 rfl
        have t0 := HC.out.cell 0 rfl 0 rfl
        have t1 := HC.out.cell 0 rfl 1 rfl
        have t2 := HC.out.cell 0 rfl 2 rfl
        have MB := Tre.hid (HC.out.allocRow #[.int .i64 (kf : Int), .int .i64 (km : Int), .bool true] 85 3 1 (by unfold maxLen; omega) rfl)
        clear HC
        go_wp2_with (at_builtin; refine wpList_append_row _ rfl _ _ 86 rfl 85 ji _ 3 24 Tryz.underlying86 L1.out L2.out L3.out L4.out rfl (by omega) (.slice aO i cO) i (ccells (((objP X.labels Y.labels xs ys).take i).map (mkC true))) rfl (MB.out.row 2 rfl) (some ⟨wq.heap.size, 0, none⟩) 1 1 [.int .i64 (kf : Int), .int .i64 (km : Int), .bool true] rfl ⟨rfl, fun j u hj => ⟨_, 0, rfl, by rw [Nat.zero_add]; exact MB.out.cellAt 0 rfl j hj⟩⟩ (by simp [Value.oneCell']) (by unfold maxLen; omega) (by omega) ?_; intro v' w9 hown4 hgrow4 hat4; have M4 := MB.out.grow 2 rfl hgrow4 hown4 hat4; obtain ⟨a4, c4, rfl, _⟩ := M4.val 2 rfl; have HM4 := Tre.hid M4; clear M4 hown4 hgrow4 hat4)
        go_roundw
        case rel =>
         refine ⟨i + 1, a4, c4, by omega, rfl, by go_num, ?_, ?_⟩
         ·show ∀ s ∈ _, _
          intro s' hs'
          rw [List.take_add_one, hsi.out] at hs'
          rcases List.mem_append.1 hs' with h | h
          ·exact hI1.out s' h
          ·simp at h; subst h; exact hsm.out
         ·show Mem _ _ _
          rw [HZS.out, List.map_append, ccells_append]
          exact ((HM4.out.del 0).del 0)
        case measure => simp [intOf]; omega
       ⟩
       have Z1 : Kept (∀ (wq : World), Hid (Mem w wq [cellsR b16 85 #[.int .i64 (km : Int), .int .i64 (kf : Int), .bool false], rowR 85 3 (.slice aO i cO) i (ccells (((objP X.labels Y.labels xs ys).take i).map (mkC true))), cellsR b10 33 #[.int .i64 X.kind, .string X.name, .slice (some ⟨bf, of, none⟩) X.args.length cx, .slice (some ⟨bl, ol, none⟩) X.labels.length dx, .bool X.isOpen], cellsR b11 33 #[.int .i64 Y.kind, .string Y.name, .slice (some ⟨bm, om, none⟩) Y.args.length cy, .slice ly Y.labels.length dy, .bool Y.isOpen], cellsR w.heap.size 85 #[ca, cb, .bool true]]) → G 1 (bt 12 2047) (a0) wq) := ⟨by
        intro  wq HC
        refine into_G hG ?_
        rw [hA.out]
        try simp only [Act.put, zqf, zqg, zqh]
        have hH := cS.is (w := wq) (⟨HC.out.cell 3 rfl 2 rfl, HC.out.cell 2 rfl 2 rfl, cell_below HC.out.below HCM.out, cell_below HC.out.below HCF.out⟩)
        refine lOne 11 (by kernel_rfl) ?_
        ·
         refine (LFall.op (by kernel_rfl) (fun K hK => ?_))
         have z0 := HC.out.free 0 rfl 0
         have z1 := HC.out.free 0 rfl 1
         have z2 := HC.out.free 0 rfl 2
         have y0 := HC.out.cell 0 rfl 0 rfl
         have y1 := HC.out.cell 0 rfl 1 rfl
         have y2 := HC.out.cell 0 rfl 2 rfl
         have HN := Tre.hid (((HC.out.setCell 0 rfl 0 (.int .i64 (kf : Int))).setCell 0 rfl 1 (.int .i64 (km : Int))).setCell 0 rfl 2 (.bool true))
         go_simp
         clear z0 z1 z2 y0 y1 y2
         generalize hw : World.setCell _ ⟨b16, 2, none⟩ _ = wr at HN ⊢
         clear hw
         refine hK.out _ _ ?_
         exact outof_G hG (Z0.out  wr HN) (by kernel_rfl) (by rw [hA.out]; try kernel_rfl)
       ⟩
       exact Z1.out  wq0 HC
      ⟩
      have Z1 : Kept (∀ (b16 : Nat) (wq : World), Hid (Mem w wq [cellsR b16 85 #[.int .i64 0, .int .i64 0, .bool false], rowR 85 3 (.slice aO i cO) i (ccells (((objP X.labels Y.labels xs ys).take i).map (mkC true))), cellsR b10 33 #[.int .i64 X.kind, .string X.name, .slice (some ⟨bf, of, none⟩) X.args.length cx, .slice (some ⟨bl, ol, none⟩) X.labels.length dx, .bool X.isOpen], cellsR b11 33 #[.int .i64 Y.kind, .string Y.name, .slice (some ⟨bm, om, none⟩) Y.args.length cy, .slice ly Y.labels.length dy, .bool Y.isOpen], cellsR w.heap.size 85 #[ca, cb, .bool true]]) → G 1 (bt 13 4095) (a0.put (some 16) (.pointer (some ⟨b16, 0, none⟩))) wq) := ⟨by
       intro b16 wq HC
       refine into_G hG ?_
       rw [hA.out]
       try simp only [Act.put, zqf, zqg, zqh]
       have hH := cS.is (w := wq) (⟨HC.out.cell 3 rfl 2 rfl, HC.out.cell 2 rfl 2 rfl, cell_below HC.out.below HCM.out, cell_below HC.out.below HCF.out⟩)
       refine lOne 12 (by kernel_rfl) ?_
       ·
        refine (LFall.op (by kernel_rfl) (fun K hK => ?_))
        have z0 := HC.out.free 0 rfl 0
        have z1 := HC.out.free 0 rfl 1
        have z2 := HC.out.free 0 rfl 2
        have y0 := HC.out.cell 0 rfl 0 rfl
        have y1 := HC.out.cell 0 rfl 1 rfl
        have y2 := HC.out.cell 0 rfl 2 rfl
        have HN := Tre.hid (((HC.out.setCell 0 rfl 0 (.int .i64 (km : Int))).setCell 0 rfl 1 (.int .i64 (kf : Int))).setCell 0 rfl 2 (.bool false))
        go_simp
        clear z0 z1 z2 y0 y1 y2
        generalize hw : World.setCell _ ⟨b16, 2, none⟩ _ = wr at HN ⊢
        clear hw
        refine hK.out _ _ ?_
        exact outof_G hG (Z0.out b16 wr HN) (by kernel_rfl) (by rw [hA.out]; try kernel_rfl)
      ⟩
      have Z2 : Kept (∀ (wq : World), Hid (Mem w wq [rowR 85 3 (.slice aO i cO) i (ccells (((objP X.labels Y.labels xs ys).take i).map (mkC true))), cellsR b10 33 #[.int .i64 X.kind, .string X.name, .slice (some ⟨bf, of, none⟩) X.args.length cx, .slice (some ⟨bl, ol, none⟩) X.labels.length dx, .bool X.isOpen], cellsR b11 33 #[.int .i64 Y.kind, .string Y.name, .slice (some ⟨bm, om, none⟩) Y.args.length cy, .slice ly Y.labels.length dy, .bool Y.isOpen], cellsR w.heap.size 85 #[ca, cb, .bool true]]) → G 2 (bt 13 2047) (a0) wq) := ⟨by
       intro  wq HC
       refine into_G hG ?_
       rw [hA.out]
       have hH := cS.is (w := wq) (⟨HC.out.cell 2 rfl 2 rfl, HC.out.cell 1 rfl 2 rfl, cell_below HC.out.below HCM.out, cell_below HC.out.below HCF.out⟩)
       refine lOne 11 (by kernel_rfl) ?_
       ·
        have HN := Tre.hid (HC.out.allocR #[.int .i64 0, .int .i64 0, .bool false] 85)
        have hH2 := cS.is (w := (wq.alloc (.cells #[.int .i64 0, .int .i64 0, .bool false] 85))) (⟨HN.out.cell 3 rfl 2 rfl, HN.out.cell 2 rfl 2 rfl, cell_below HN.out.below HCM.out, cell_below HN.out.below HCF.out⟩)
        refine LStep.made (some 16) (.pointer (some ⟨wq.heap.size, 0, none⟩)) _ (by kernel_rfl) (by kernel_rfl) hH2 ?_
        exact outof_G hG (Z1.out wq.heap.size _ HN) (by kernel_rfl) (by rw [hA.out]; try kernel_rfl)
      ⟩
      exact Z2.out  wq0 HC
     ·have HSR := Tre.hid (search_none ly dy Y.labels s _ (HMS.out.below HI.out.below) hsm (by have := HML2.out; omega))
      have HNO : Hid (¬ ∀ s ∈ X.labels, s ∈ Y.labels) := fun h => hsm (h s (List.mem_of_getElem? hsi.out))
      go_wp2_with fail
      refine HSR.out.mono ?_
      rintro e wq1 ⟨⟨kk, rfl⟩, bq⟩
      have HB := Tre.hid (HI.out.quiet bq).below
      clear bq HSR HI m3 hlc
      go_wp2_with fail
      go_ret2
      exact .inr ⟨_, rfl, HNO.out, HB.out⟩
    ·have e : i = X.labels.length := by omega
     subst e
     have HTA : Hid ((objP X.labels Y.labels xs ys).take X.labels.length = objP X.labels Y.labels xs ys) := List.take_of_length_le (by rw [objP_len]; exact Nat.le_refl _)
     have HA : Hid (∀ s ∈ X.labels, s ∈ Y.labels) := by have := hI1.out; rw [List.take_length] at this; exact this
     have HR : Hid (Mem w wr [rowR 85 3 (.slice aO X.labels.length cO) X.labels.length (ccells ((objP X.labels Y.labels xs ys).map (mkC true)))]) := by have h := ((HI.out.del 1).del 1).del 1; rw [HTA.out] at h; exact h
     go_wp2_with fail
     go_ret2
     exact .inl ⟨_, rfl, HA.out, by rw [objP_len]; exact HR.out⟩
  ⟩
  have Z1 : Kept (∀ (wq : World), Hid (Mem w wq [cellsR b10 33 #[.int .i64 X.kind, .string X.name, .slice ax X.args.length cx, .slice lx X.labels.length dx, .bool X.isOpen], cellsR b11 33 #[.int .i64 X.kind, .string X.name, .slice ax X.args.length cx, .slice lx X.labels.length dx, .bool X.isOpen], cellsR (w.heap.size + 2) 33 #[.int .i64 Y.kind, .string Y.name, .slice ay Y.args.length cy, .slice ly Y.labels.length dy, .bool Y.isOpen], cellsR (w.heap.size + 1) 33 #[.int .i64 X.kind, .string X.name, .slice ax X.args.length cx, .slice lx X.labels.length dx, .bool X.isOpen], cellsR w.heap.size 85 #[ca, cb, .bool true]]) → G 1 (bt 4 7) (a0) wq) := ⟨by
   intro  wq HC
   refine into_G hG ?_
   rw [hA.out]
   try simp only [Act.put, zqf, zqg, zqh]
   have hH := cS.is (w := wq) (⟨HC.out.cell 3 rfl 0 rfl, HC.out.cell 3 rfl 1 rfl, HC.out.cell 3 rfl 2 rfl, HC.out.cell 3 rfl 3 rfl, HC.out.cell 3 rfl 4 rfl, HC.out.cell 2 rfl 0 rfl, HC.out.cell 2 rfl 1 rfl, HC.out.cell 2 rfl 2 rfl, HC.out.cell 2 rfl 3 rfl, HC.out.cell 2 rfl 4 rfl⟩)
   refine lOne 3 (by kernel_rfl) ?_
   ·
    refine (LFall.op (by kernel_rfl) (fun K hK => ?_))
    have z0 := HC.out.free 1 rfl 0
    have z1 := HC.out.free 1 rfl 1
    have z2 := HC.out.free 1 rfl 2
    have z3 := HC.out.free 1 rfl 3
    have z4 := HC.out.free 1 rfl 4
    obtain ⟨y0, y1, y2, y3, y4⟩ := five HC.out 1 rfl
    have HN := Tre.hid (((((HC.out.setCell 1 rfl 0 (.int .i64 Y.kind)).setCell 1 rfl 1 (.string Y.name)).setCell 1 rfl 2 (.slice ay Y.args.length cy)).setCell 1 rfl 3 (.slice ly Y.labels.length dy)).setCell 1 rfl 4 (.bool Y.isOpen))
    go_simp
    clear z0 z1 z2 z3 z4 y0 y1 y2 y3 y4
    generalize hw : World.setCell _ ⟨b11, 4, none⟩ _ = wr at HN ⊢
    clear hw
    refine hK.out _ _ ?_
    exact outof_G hG (Z0.out  wr HN) (by kernel_rfl) (by rw [hA.out]; try kernel_rfl)
  ⟩
  have Z2 : Kept (∀ (wq : World), Hid (Mem w wq [cellsR b10 33 #[.int .i64 Y.kind, .string Y.name, .slice ay Y.args.length cy, .slice ly Y.labels.length dy, .bool Y.isOpen], cellsR b11 33 #[.int .i64 X.kind, .string X.name, .slice ax X.args.length cx, .slice lx X.labels.length dx, .bool X.isOpen], cellsR (w.heap.size + 2) 33 #[.int .i64 Y.kind, .string Y.name, .slice ay Y.args.length cy, .slice ly Y.labels.length dy, .bool Y.isOpen], cellsR (w.heap.size + 1) 33 #[.int .i64 X.kind, .string X.name, .slice ax X.args.length cx, .slice lx X.labels.length dx, .bool X.isOpen], cellsR w.heap.size 85 #[ca, cb, .bool true]]) → G 2 (bt 4 3) (a0) wq) := ⟨by
   intro  wq HC
   refine into_G hG ?_
   rw [hA.out]
   try simp only [Act.put, zqf, zqg, zqh]
   have hH := cS.is (w := wq) (⟨HC.out.cell 3 rfl 0 rfl, HC.out.cell 3 rfl 1 rfl, HC.out.cell 3 rfl 2 rfl, HC.out.cell 3 rfl 3 rfl, HC.out.cell 3 rfl 4 rfl, HC.out.cell 2 rfl 0 rfl, HC.out.cell 2 rfl 1 rfl, HC.out.cell 2 rfl 2 rfl, HC.out.cell 2 rfl 3 rfl, HC.out.cell 2 rfl 4 rfl⟩)
   refine lOne 2 (by kernel_rfl) ?_
   ·
    refine (LStep.op (fun K hK => ?_))
    have z0 := HC.out.free 0 rfl 0
    have z1 := HC.out.free 0 rfl 1
    have z2 := HC.out.free 0 rfl 2
    have z3 := HC.out.free 0 rfl 3
    have z4 := HC.out.free 0 rfl 4
    obtain ⟨y0, y1, y2, y3, y4⟩ := five HC.out 0 rfl
    have HN := Tre.hid (((((HC.out.setCell 0 rfl 0 (.int .i64 X.kind)).setCell 0 rfl 1 (.string X.name)).setCell 0 rfl 2 (.slice ax X.args.length cx)).setCell 0 rfl 3 (.slice lx X.labels.length dx)).setCell 0 rfl 4 (.bool X.isOpen))
    go_simp
    clear z0 z1 z2 z3 z4 y0 y1 y2 y3 y4
    generalize hw : World.setCell _ ⟨b10, 4, none⟩ _ = wr at HN ⊢
    clear hw
    refine hK.out _ _ ?_ (fun hH2 => ?_)
    ·exact ⟨HN.out.cell 3 rfl 0 rfl, HN.out.cell 3 rfl 1 rfl, HN.out.cell 3 rfl 2 rfl, HN.out.cell 3 rfl 3 rfl, HN.out.cell 3 rfl 4 rfl, HN.out.cell 2 rfl 0 rfl, HN.out.cell 2 rfl 1 rfl, HN.out.cell 2 rfl 2 rfl, HN.out.cell 2 rfl 3 rfl, HN.out.cell 2 rfl 4 rfl⟩
    exact outof_G hG (Z1.out  wr HN) (by kernel_rfl) (by rw [hA.out]; try kernel_rfl)
  ⟩
  exact Z2.out  wq0 HC
 ⟩
 have Z1 : Kept (∀ (b10 : Nat) (b11 : Nat) (wq : World), Hid (Mem w wq [cellsR b10 33 #[.int .i64 Y.kind, .string Y.name, .slice ay Y.args.length cy, .slice ly Y.labels.length dy, .bool Y.isOpen], cellsR b11 33 #[.int .i64 0, .string { data := #[] }, .slice none 0 0, .slice none 0 0, .bool false], cellsR (w.heap.size + 2) 33 #[.int .i64 Y.kind, .string Y.name, .slice ay Y.args.length cy, .slice ly Y.labels.length dy, .bool Y.isOpen], cellsR (w.heap.size + 1) 33 #[.int .i64 X.kind, .string X.name, .slice ax X.args.length cx, .slice lx X.labels.length dx, .bool X.isOpen], cellsR w.heap.size 85 #[ca, cb, .bool true]]) → G 1 (bt 6 31) ((a0.put (some 10) (.pointer (some ⟨b10, 0, none⟩))).put (some 11) (.pointer (some ⟨b11, 0, none⟩))) wq) := ⟨by
  intro b10 b11 wq HC
  refine into_G hG ?_
  rw [hA.out]
  try simp only [Act.put, zqf, zqg, zqh]
  have hH := cS.is (w := wq) (⟨HC.out.cell 3 rfl 0 rfl, HC.out.cell 3 rfl 1 rfl, HC.out.cell 3 rfl 2 rfl, HC.out.cell 3 rfl 3 rfl, HC.out.cell 3 rfl 4 rfl, HC.out.cell 2 rfl 0 rfl, HC.out.cell 2 rfl 1 rfl, HC.out.cell 2 rfl 2 rfl, HC.out.cell 2 rfl 3 rfl, HC.out.cell 2 rfl 4 rfl⟩)
  refine lOne 5 (by kernel_rfl) ?_
  ·
   refine (LFall.op (by kernel_rfl) (fun K hK => ?_))
   have z0 := HC.out.free 1 rfl 0
   have z1 := HC.out.free 1 rfl 1
   have z2 := HC.out.free 1 rfl 2
   have z3 := HC.out.free 1 rfl 3
   have z4 := HC.out.free 1 rfl 4
   obtain ⟨y0, y1, y2, y3, y4⟩ := five HC.out 1 rfl
   have HN := Tre.hid (((((HC.out.setCell 1 rfl 0 (.int .i64 X.kind)).setCell 1 rfl 1 (.string X.name)).setCell 1 rfl 2 (.slice ax X.args.length cx)).setCell 1 rfl 3 (.slice lx X.labels.length dx)).setCell 1 rfl 4 (.bool X.isOpen))
   go_simp
   clear z0 z1 z2 z3 z4 y0 y1 y2 y3 y4
   generalize hw : World.setCell _ ⟨b11, 4, none⟩ _ = wr at HN ⊢
   clear hw
   refine hK.out _ _ ?_
   exact outof_G hG (Z0.out b10 b11 wr HN) (by kernel_rfl) (by rw [hA.out]; try kernel_rfl)
 ⟩
 have Z2 : Kept (∀ (b10 : Nat) (b11 : Nat) (wq : World), Hid (Mem w wq [cellsR b10 33 #[.int .i64 0, .string { data := #[] }, .slice none 0 0, .slice none 0 0, .bool false], cellsR b11 33 #[.int .i64 0, .string { data := #[] }, .slice none 0 0, .slice none 0 0, .bool false], cellsR (w.heap.size + 2) 33 #[.int .i64 Y.kind, .string Y.name, .slice ay Y.args.length cy, .slice ly Y.labels.length dy, .bool Y.isOpen], cellsR (w.heap.size + 1) 33 #[.int .i64 X.kind, .string X.name, .slice ax X.args.length cx, .slice lx X.labels.length dx, .bool X.isOpen], cellsR w.heap.size 85 #[ca, cb, .bool true]]) → G 2 (bt 6 15) ((a0.put (some 10) (.pointer (some ⟨b10, 0, none⟩))).put (some 11) (.pointer (some ⟨b11, 0, none⟩))) wq) := ⟨by
  intro b10 b11 wq HC
  refine into_G hG ?_
  rw [hA.out]
  try simp only [Act.put, zqf, zqg, zqh]
  have hH := cS.is (w := wq) (⟨HC.out.cell 3 rfl 0 rfl, HC.out.cell 3 rfl 1 rfl, HC.out.cell 3 rfl 2 rfl, HC.out.cell 3 rfl 3 rfl, HC.out.cell 3 rfl 4 rfl, HC.out.cell 2 rfl 0 rfl, HC.out.cell 2 rfl 1 rfl, HC.out.cell 2 rfl 2 rfl, HC.out.cell 2 rfl 3 rfl, HC.out.cell 2 rfl 4 rfl⟩)
  refine lOne 4 (by kernel_rfl) ?_
  ·
   refine (LStep.op (fun K hK => ?_))
   have z0 := HC.out.free 0 rfl 0
   have z1 := HC.out.free 0 rfl 1
   have z2 := HC.out.free 0 rfl 2
   have z3 := HC.out.free 0 rfl 3
   have z4 := HC.out.free 0 rfl 4
   obtain ⟨y0, y1, y2, y3, y4⟩ := five HC.out 0 rfl
   have HN := Tre.hid (((((HC.out.setCell 0 rfl 0 (.int .i64 Y.kind)).setCell 0 rfl 1 (.string Y.name)).setCell 0 rfl 2 (.slice ay Y.args.length cy)).setCell 0 rfl 3 (.slice ly Y.labels.length dy)).setCell 0 rfl 4 (.bool Y.isOpen))
   go_simp
   clear z0 z1 z2 z3 z4 y0 y1 y2 y3 y4
   generalize hw : World.setCell _ ⟨b10, 4, none⟩ _ = wr at HN ⊢
   clear hw
   refine hK.out _ _ ?_ (fun hH2 => ?_)
   ·exact ⟨HN.out.cell 3 rfl 0 rfl, HN.out.cell 3 rfl 1 rfl, HN.out.cell 3 rfl 2 rfl, HN.out.cell 3 rfl 3 rfl, HN.out.cell 3 rfl 4 rfl, HN.out.cell 2 rfl 0 rfl, HN.out.cell 2 rfl 1 rfl, HN.out.cell 2 rfl 2 rfl, HN.out.cell 2 rfl 3 rfl, HN.out.cell 2 rfl 4 rfl⟩
   exact outof_G hG (Z1.out b10 b11 wr HN) (by kernel_rfl) (by rw [hA.out]; try kernel_rfl)
 ⟩
 have Z3 : Kept (∀ (b10 : Nat) (wq : World), Hid (Mem w wq [cellsR b10 33 #[.int .i64 0, .string { data := #[] }, .slice none 0 0, .slice none 0 0, .bool false], cellsR (w.heap.size + 2) 33 #[.int .i64 Y.kind, .string Y.name, .slice ay Y.args.length cy, .slice ly Y.labels.length dy, .bool Y.isOpen], cellsR (w.heap.size + 1) 33 #[.int .i64 X.kind, .string X.name, .slice ax X.args.length cx, .slice lx X.labels.length dx, .bool X.isOpen], cellsR w.heap.size 85 #[ca, cb, .bool true]]) → G 3 (bt 6 7) (a0.put (some 10) (.pointer (some ⟨b10, 0, none⟩))) wq) := ⟨by
  intro b10 wq HC
  refine into_G hG ?_
  rw [hA.out]
  have hH := cS.is (w := wq) (⟨HC.out.cell 2 rfl 0 rfl, HC.out.cell 2 rfl 1 rfl, HC.out.cell 2 rfl 2 rfl, HC.out.cell 2 rfl 3 rfl, HC.out.cell 2 rfl 4 rfl, HC.out.cell 1 rfl 0 rfl, HC.out.cell 1 rfl 1 rfl, HC.out.cell 1 rfl 2 rfl, HC.out.cell 1 rfl 3 rfl, HC.out.cell 1 rfl 4 rfl⟩)
  refine lOne 3 (by kernel_rfl) ?_
  ·
   have HN := Tre.hid (HC.out.allocR #[.int .i64 0, .string { data := #[] }, .slice none 0 0, .slice none 0 0, .bool false] 33)
   have HC := Tre.hid ((HN.out.front 0 rfl).front 1 rfl)
   clear HN
   have hH2 := cS.is (w := (wq.alloc (.cells #[.int .i64 0, .string { data := #[] }, .slice none 0 0, .slice none 0 0, .bool false] 33))) (⟨HC.out.cell 3 rfl 0 rfl, HC.out.cell 3 rfl 1 rfl, HC.out.cell 3 rfl 2 rfl, HC.out.cell 3 rfl 3 rfl, HC.out.cell 3 rfl 4 rfl, HC.out.cell 2 rfl 0 rfl, HC.out.cell 2 rfl 1 rfl, HC.out.cell 2 rfl 2 rfl, HC.out.cell 2 rfl 3 rfl, HC.out.cell 2 rfl 4 rfl⟩)
   refine LStep.made (some 11) (.pointer (some ⟨wq.heap.size, 0, none⟩)) _ (by kernel_rfl) (by kernel_rfl) hH2 ?_
   exact outof_G hG (Z2.out b10 wq.heap.size _ HC) (by kernel_rfl) (by rw [hA.out]; try kernel_rfl)
 ⟩
 have Z4 : Kept (∀ (b11 : Nat) (wq : World), Hid (Mem w wq [cellsR b11 33 #[.int .i64 0, .string { data := #[] }, .slice none 0 0, .slice none 0 0, .bool false], cellsR (w.heap.size + 2) 33 #[.int .i64 Y.kind, .string Y.name, .slice ay Y.args.length cy, .slice ly Y.labels.length dy, .bool Y.isOpen], cellsR (w.heap.size + 1) 33 #[.int .i64 X.kind, .string X.name, .slice ax X.args.length cx, .slice lx X.labels.length dx, .bool X.isOpen], cellsR w.heap.size 85 #[ca, cb, .bool true]]) → G 3 (bt 6 11) (a0.put (some 11) (.pointer (some ⟨b11, 0, none⟩))) wq) := ⟨by
  intro b11 wq HC
  refine into_G hG ?_
  rw [hA.out]
  have hH := cS.is (w := wq) (⟨HC.out.cell 2 rfl 0 rfl, HC.out.cell 2 rfl 1 rfl, HC.out.cell 2 rfl 2 rfl, HC.out.cell 2 rfl 3 rfl, HC.out.cell 2 rfl 4 rfl, HC.out.cell 1 rfl 0 rfl, HC.out.cell 1 rfl 1 rfl, HC.out.cell 1 rfl 2 rfl, HC.out.cell 1 rfl 3 rfl, HC.out.cell 1 rfl 4 rfl⟩)
  refine lOne 2 (by kernel_rfl) ?_
  ·
   have HN := Tre.hid (HC.out.allocR #[.int .i64 0, .string { data := #[] }, .slice none 0 0, .slice none 0 0, .bool false] 33)
   have hH2 := cS.is (w := (wq.alloc (.cells #[.int .i64 0, .string { data := #[] }, .slice none 0 0, .slice none 0 0, .bool false] 33))) (⟨HN.out.cell 3 rfl 0 rfl, HN.out.cell 3 rfl 1 rfl, HN.out.cell 3 rfl 2 rfl, HN.out.cell 3 rfl 3 rfl, HN.out.cell 3 rfl 4 rfl, HN.out.cell 2 rfl 0 rfl, HN.out.cell 2 rfl 1 rfl, HN.out.cell 2 rfl 2 rfl, HN.out.cell 2 rfl 3 rfl, HN.out.cell 2 rfl 4 rfl⟩)
   refine LStep.made (some 10) (.pointer (some ⟨wq.heap.size, 0, none⟩)) _ (by kernel_rfl) (by kernel_rfl) hH2 ?_
   exact outof_G hG (Z2.out wq.heap.size b11 _ HN) (by kernel_rfl) (by rw [hA.out]; try kernel_rfl)
 ⟩
 have Z5 : Kept (∀ (wq : World), Hid (Mem w wq [cellsR (w.heap.size + 2) 33 #[.int .i64 Y.kind, .string Y.name, .slice ay Y.args.length cy, .slice ly Y.labels.length dy, .bool Y.isOpen], cellsR (w.heap.size + 1) 33 #[.int .i64 X.kind, .string X.name, .slice ax X.args.length cx, .slice lx X.labels.length dx, .bool X.isOpen], cellsR w.heap.size 85 #[ca, cb, .bool true]]) → G 4 (bt 6 3) (a0) wq) := ⟨by
  intro  wq HC
  refine into_G hG ?_
  rw [hA.out]
  have hH := cS.is (w := wq) (⟨HC.out.cell 1 rfl 0 rfl, HC.out.cell 1 rfl 1 rfl, HC.out.cell 1 rfl 2 rfl, HC.out.cell 1 rfl 3 rfl, HC.out.cell 1 rfl 4 rfl, HC.out.cell 0 rfl 0 rfl, HC.out.cell 0 rfl 1 rfl, HC.out.cell 0 rfl 2 rfl, HC.out.cell 0 rfl 3 rfl, HC.out.cell 0 rfl 4 rfl⟩)
  refine lTwo 2 3 (by kernel_rfl) ?_ ?_
  ·
   have HN := Tre.hid (HC.out.allocR #[.int .i64 0, .string { data := #[] }, .slice none 0 0, .slice none 0 0, .bool false] 33)
   have hH2 := cS.is (w := (wq.alloc (.cells #[.int .i64 0, .string { data := #[] }, .slice none 0 0, .slice none 0 0, .bool false] 33))) (⟨HN.out.cell 2 rfl 0 rfl, HN.out.cell 2 rfl 1 rfl, HN.out.cell 2 rfl 2 rfl, HN.out.cell 2 rfl 3 rfl, HN.out.cell 2 rfl 4 rfl, HN.out.cell 1 rfl 0 rfl, HN.out.cell 1 rfl 1 rfl, HN.out.cell 1 rfl 2 rfl, HN.out.cell 1 rfl 3 rfl, HN.out.cell 1 rfl 4 rfl⟩)
   refine LStep.made (some 10) (.pointer (some ⟨wq.heap.size, 0, none⟩)) _ (by kernel_rfl) (by kernel_rfl) hH2 ?_
   exact outof_G hG (Z3.out wq.heap.size _ HN) (by kernel_rfl) (by rw [hA.out]; try kernel_rfl)
  ·
   have HN := Tre.hid (HC.out.allocR #[.int .i64 0, .string { data := #[] }, .slice none 0 0, .slice none 0 0, .bool false] 33)
   have hH2 := cS.is (w := (wq.alloc (.cells #[.int .i64 0, .string { data := #[] }, .slice none 0 0, .slice none 0 0, .bool false] 33))) (⟨HN.out.cell 2 rfl 0 rfl, HN.out.cell 2 rfl 1 rfl, HN.out.cell 2 rfl 2 rfl, HN.out.cell 2 rfl 3 rfl, HN.out.cell 2 rfl 4 rfl, HN.out.cell 1 rfl 0 rfl, HN.out.cell 1 rfl 1 rfl, HN.out.cell 1 rfl 2 rfl, HN.out.cell 1 rfl 3 rfl, HN.out.cell 1 rfl 4 rfl⟩)
   refine LStep.made (some 11) (.pointer (some ⟨wq.heap.size, 0, none⟩)) _ (by kernel_rfl) (by kernel_rfl) hH2 ?_
   exact outof_G hG (Z4.out wq.heap.size _ HN) (by kernel_rfl) (by rw [hA.out]; try kernel_rfl)
 ⟩
 exact Z5.out  wq0 HC
end Go.Proofs.YtoieknnnadgfpaaGreatDoor.gr
