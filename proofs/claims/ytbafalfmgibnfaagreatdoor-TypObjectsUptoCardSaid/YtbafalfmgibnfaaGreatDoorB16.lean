/- copy into a row of the call's own; a list in a list: plain. slices.Insert at the end of a row: strings, types. slices.Insert anywhere in a row: types; strings. -/
import Derived.Test.YtbafalfmgibnfaaGreatDoorB01
import Derived.Laws.CopyRow
import Derived.Laws.Externs
import Derived.Lib.Overlaps
import Derived.Lib.AppendZerosOnto
import Derived.Laws.NewBlocks
import Derived.Shelf.Spec.SlicesInsert
import Derived.Test.YtbafalfmgibnfaaGreatDoorB03
set_option linter.unusedVariables false
namespace Go.Tre
open Go.RowKit
theorem run_copy_rows {P : Program} (w : World) (dT sT ty elem : TypeId) (g o dLen dCap : Nat) (a : Addr) (sLen sCap sz : Nat) (cur : Array Value) (t : TypeId) (cs : List Value)
  (hu : P.underlying dT = some (.slice elem)) (hs : (P.info? elem).map (·.size) = some sz)
  (hg : w.heap[g]? = some (.cells cur t (0, 0))) (hn : cs.length = Nat.min sLen dLen * sz)
  (hsrc : ∀ j v, cs[j]? = some v → w.cell? (a.add j) = some v) (hfit : o + cs.length ≤ cur.size) (h1 : ∀ v ∈ cs, v.oneCell' = true) :
  (Builtin.copy_ #[dT, sT] ty #[.slice (some ⟨g, o, none⟩) dLen dCap, .slice (some a) sLen sCap]).run P w =
   .ok (goInt (Nat.min sLen dLen)) (w.setRow g (cur.toList.take o ++ cs ++ cur.toList.drop (o + cs.length)).toArray) := by
 have hl := run_loadCells_list (P := P) w a cs hsrc
 have hst := run_storeCells_at P g o t cs 0 cur w hg (by simpa using hfit) h1
 cases hq : P.info? elem with
 | none => simp [hq] at hs
 | some i =>
  have hi : i.size = sz := by simpa [hq] using hs
  simp [Builtin.copy_, run_underlying hu, Builtin.lenOf, Builtin.firstCells, sizeOf, typeInfo, hq, hi, ← hn, hl, hst]
theorem rowOther (w : World) (g : Nat) (cs : Array Value) {k : Nat} (hk : k ≠ g) : (w.setRow g cs).heap[k]? = w.heap[k]? := by
 unfold World.setRow
 simp only [Array.getElem?_modify]
 rw [if_neg (fun e => hk e.symm)]
theorem heap_new (w : World) (o : Obj) : (w.alloc o).heap[w.heap.size]? = some o := World.alloc_heap_new w o
theorem heap_old (w : World) (o : Obj) {k : Nat} (h : k < w.heap.size) : (w.alloc o).heap[k]? = w.heap[k]? := Below.heap_alloc w o k h
theorem rowSize (w : World) (g : Nat) (cs : Array Value) : (w.setRow g cs).heap.size = w.heap.size := by
 unfold World.setRow
 simp
theorem ins_room {sz n i : Nat} {cur xs us : List Value} (hi : i ≤ n) (hx : cur.take (n * sz) = xs) (hl : xs.length = n * sz) (hu : us.length = sz) (hc : (n + 1) * sz ≤ cur.length) :
  let c1 := cur.take ((i + 1) * sz) ++ xs.drop (i * sz) ++ cur.drop ((i + 1) * sz + (xs.drop (i * sz)).length)
  let c2 := c1.take (i * sz) ++ us ++ c1.drop (i * sz + us.length)
  c1.length = cur.length ∧ c2.length = cur.length ∧ c2.take ((n + 1) * sz) = xs.take (i * sz) ++ us ++ xs.drop (i * sz) := by
 intro c1 c2
 have e1 : (i + 1) * sz = i * sz + sz := by rw [Nat.add_mul, Nat.one_mul]
 have e2 : (n + 1) * sz = n * sz + sz := by rw [Nat.add_mul, Nat.one_mul]
 have e3 : i * sz ≤ n * sz := Nat.mul_le_mul_right _ hi
 have hd : (xs.drop (i * sz)).length = n * sz - i * sz := by rw [List.length_drop, hl]
 have ht : (cur.take ((i + 1) * sz)).length = (i + 1) * sz := by rw [List.length_take]; omega
 have h1 : c1.length = cur.length := by
  show (cur.take ((i + 1) * sz) ++ xs.drop (i * sz) ++ cur.drop ((i + 1) * sz + (xs.drop (i * sz)).length)).length = _
  rw [List.length_append, List.length_append, ht, hd, List.length_drop]
  omega
 have h2 : c1.take (i * sz) = xs.take (i * sz) := by
  show (cur.take ((i + 1) * sz) ++ xs.drop (i * sz) ++ cur.drop ((i + 1) * sz + (xs.drop (i * sz)).length)).take (i * sz) = _
  rw [List.append_assoc, List.take_append_of_le_length (by omega), List.take_take, Nat.min_eq_left (by omega), ← hx, List.take_take, Nat.min_eq_left e3]
 have h3 : c1.drop (i * sz + us.length) = xs.drop (i * sz) ++ cur.drop ((i + 1) * sz + (xs.drop (i * sz)).length) := by
  show (cur.take ((i + 1) * sz) ++ xs.drop (i * sz) ++ cur.drop ((i + 1) * sz + (xs.drop (i * sz)).length)).drop (i * sz + us.length) = _
  rw [List.append_assoc, List.drop_left' (by rw [ht, hu, e1])]
 have hta : (xs.take (i * sz)).length = i * sz := by rw [List.length_take, hl]; omega
 refine ⟨h1, ?_, ?_⟩
 ·show (c1.take (i * sz) ++ us ++ c1.drop (i * sz + us.length)).length = _
  rw [h2, h3, List.length_append, List.length_append, List.length_append, hta, hd, hu, List.length_drop]
  omega
 ·show (c1.take (i * sz) ++ us ++ c1.drop (i * sz + us.length)).take ((n + 1) * sz) = _
  rw [h2, h3, ← List.append_assoc]
  refine List.take_left' ?_
  rw [List.length_append, List.length_append, hta, hd, hu]
  omega
theorem ins_grow {sz n i G : Nat} {xs us ze : List Value} (hi : i ≤ n) (hl : xs.length = n * sz) (hu : us.length = sz) (hz : ze.length = (n + 1 - i) * sz + G * sz) :
  let c0 := xs.take (i * sz) ++ ze
  let c1 := c0.take (i * sz) ++ us ++ c0.drop (i * sz + us.length)
  let c2 := c1.take ((i + 1) * sz) ++ xs.drop (i * sz) ++ c1.drop ((i + 1) * sz + (xs.drop (i * sz)).length)
  c0.length = (n + 1) * sz + G * sz ∧ c1.length = c0.length ∧ c2.length = c0.length ∧ c2.take ((n + 1) * sz) = xs.take (i * sz) ++ us ++ xs.drop (i * sz) := by
 intro c0 c1 c2
 have e1 : (i + 1) * sz = i * sz + sz := by rw [Nat.add_mul, Nat.one_mul]
 have e2 : (n + 1) * sz = n * sz + sz := by rw [Nat.add_mul, Nat.one_mul]
 have e3 : i * sz ≤ n * sz := Nat.mul_le_mul_right _ hi
 have e4 : (n + 1 - i) * sz = (n + 1) * sz - i * sz := Nat.sub_mul ..
 have hd : (xs.drop (i * sz)).length = n * sz - i * sz := by rw [List.length_drop, hl]
 have hta : (xs.take (i * sz)).length = i * sz := by rw [List.length_take, hl]; omega
 have h0 : c0.length = (n + 1) * sz + G * sz := by
  show (xs.take (i * sz) ++ ze).length = _
  rw [List.length_append, hta, hz]
  omega
 have h2 : c0.take (i * sz) = xs.take (i * sz) := List.take_left' hta
 have h1 : c1.length = c0.length := by
  show (c0.take (i * sz) ++ us ++ c0.drop (i * sz + us.length)).length = _
  rw [h2, List.length_append, List.length_append, hta, List.length_drop, hu, h0]
  omega
 have h3 : c1.take ((i + 1) * sz) = xs.take (i * sz) ++ us := by
  show (c0.take (i * sz) ++ us ++ c0.drop (i * sz + us.length)).take ((i + 1) * sz) = _
  rw [h2]
  exact List.take_left' (by rw [List.length_append, hta, hu, e1])
 refine ⟨h0, h1, ?_, ?_⟩
 ·show (c1.take ((i + 1) * sz) ++ xs.drop (i * sz) ++ c1.drop ((i + 1) * sz + (xs.drop (i * sz)).length)).length = _
  rw [h3, List.length_append, List.length_append, List.length_append, hta, hd, hu, List.length_drop, h1, h0]
  omega
 ·show (c1.take ((i + 1) * sz) ++ xs.drop (i * sz) ++ c1.drop ((i + 1) * sz + (xs.drop (i * sz)).length)).take ((n + 1) * sz) = _
  rw [h3]
  refine List.take_left' ?_
  rw [List.length_append, List.length_append, hta, hd, hu]
  omega
end Go.Tre
namespace Go.Proofs.YtbafalfmgibnfaaGreatDoor.typ
open Go.RowKit Go.Tre
theorem infoStr : (Tryz.prog.info? 9).map (fun i => (i.zero, i.size, i.bytes)) = some (some (.string ⟨#[]⟩), 1, 16) := by kernel_rfl
theorem infoTy : (Tryz.prog.info? 28).map (fun i => (i.zero, i.size, i.bytes)) = some (some (.agg #[.int .i64 0, .string ⟨#[]⟩, .slice none 0 0, .slice none 0 0, .bool false]), 5, 80) := by kernel_rfl
set_option maxRecDepth 100000 in
set_option maxHeartbeats 2000000 in
theorem insStr (w0 : World) (rs : List Res) (w : World) (al : Option Addr) (n cl nb : Nat) (xs : List Value) (u : Value) (hM : Mem w0 w (rowR 9 1 (.slice al n cl) n xs :: rowR 9 1 (.slice (some ⟨nb, 0, none⟩) 1 1) 1 [u] :: rs)) (hn : n ≤ 4194304) (hu : u.oneCell' = true) :
  Calls Tryz.prog 97 #[.slice al n cl, .int .i64 n, .slice (some ⟨nb, 0, none⟩) 1 1] w fun e w' => ∃ a c, e = .returned (.slice a (n + 1 : Nat) c) ∧ Mem w0 w' (rowR 9 1 (.slice a (n + 1) c) (n + 1) (xs ++ [u]) :: rowR 9 1 (.slice (some ⟨nb, 0, none⟩) 1 1) 1 [u] :: rs) := by
 obtain ⟨si, T1, T2, T3, T4⟩ := info_parts infoStr
 have K2 := Tre.hid T2
 have K3 := Tre.hid T3
 have K4 := Tre.hid T4
 obtain ⟨_, _, e, hcl⟩ := hM.val 0 rfl
 cases e
 have HM := Tre.hid hM
 have hnn : ((n : Int) == (n : Int)) = true := beq_self_eq_true _
 clear hM T2 T3 T4
 go_enter Tryz.func97, Tryz.ntmps97
 go_wp2_with (at_builtin; refine wpList_append_row _ rfl _ _ 26 rfl 9 si _ 1 16 Tryz.underlying26 T1 K2.out K3.out K4.out rfl (by omega) (.slice al n cl) n xs rfl (HM.out.row 0 rfl) (some ⟨nb, 0, none⟩) 1 1 [u] rfl ⟨rfl, fun j x hj => ⟨_, 0, rfl, by rw [Nat.zero_add]; exact HM.out.cellAt 1 rfl j hj⟩⟩ (by simpa using hu) (by unfold maxLen; omega) (by omega) ?_; intro v9 w9 hown9 hgrow9 hat9; have M9 := HM.out.grow 0 rfl hgrow9 hown9 hat9; obtain ⟨a9, c9, rfl, _⟩ := M9.val 0 rfl; have HM9 := Tre.hid M9; clear M9 hown9 hgrow9 hat9)
 all_goals
  go_ret
  exact ⟨a9, c9, rfl, HM9.out⟩
set_option maxRecDepth 100000 in
set_option maxHeartbeats 2000000 in
theorem insTy (w0 : World) (rs : List Res) (w : World) (al : Option Addr) (n cl nb : Nat) (xs us : List Value) (hM : Mem w0 w (rowR 28 5 (.slice al n cl) n xs :: rowR 28 5 (.slice (some ⟨nb, 0, none⟩) 1 1) 1 us :: rs)) (hn : n ≤ 4194304) (hu : ∀ u ∈ us, u.oneCell' = true) :
  Calls Tryz.prog 98 #[.slice al n cl, .int .i64 n, .slice (some ⟨nb, 0, none⟩) 1 1] w fun e w' => ∃ a c, e = .returned (.slice a (n + 1 : Nat) c) ∧ Mem w0 w' (rowR 28 5 (.slice a (n + 1) c) (n + 1) (xs ++ us) :: rowR 28 5 (.slice (some ⟨nb, 0, none⟩) 1 1) 1 us :: rs) := by
 obtain ⟨si, T1, T2, T3, T4⟩ := info_parts infoTy
 have K2 := Tre.hid T2
 have K3 := Tre.hid T3
 have K4 := Tre.hid T4
 obtain ⟨_, _, e, hcl⟩ := hM.val 0 rfl
 cases e
 have HM := Tre.hid hM
 have hlen : us.length = 1 * 5 := (hM.row 1 rfl).1
 have HL := Tre.hid hlen
 have HU := Tre.hid hu
 have hnn : ((n : Int) == (n : Int)) = true := beq_self_eq_true _
 clear hM T2 T3 T4 hlen hu
 go_enter Tryz.func98, Tryz.ntmps98
 go_wp2_with (at_builtin; refine wpList_append_row _ rfl _ _ 25 rfl 28 si _ 5 80 Tryz.underlying25 T1 K2.out K3.out K4.out rfl (by omega) (.slice al n cl) n xs rfl (HM.out.row 0 rfl) (some ⟨nb, 0, none⟩) 1 1 us rfl ⟨HL.out, fun j x hj => ⟨_, 0, rfl, by rw [Nat.zero_add]; exact HM.out.cellAt 1 rfl j hj⟩⟩ HU.out (by unfold maxLen; omega) (by omega) ?_; intro v9 w9 hown9 hgrow9 hat9; have M9 := HM.out.grow 0 rfl hgrow9 hown9 hat9; obtain ⟨a9, c9, rfl, _⟩ := M9.val 0 rfl; have HM9 := Tre.hid M9; clear M9 hown9 hgrow9 hat9)
 all_goals
  go_ret
  exact ⟨a9, c9, rfl, HM9.out⟩
end Go.Proofs.YtbafalfmgibnfaaGreatDoor.typ
namespace Go.Proofs.YtbafalfmgibnfaaGreatDoor.typ
open Go.RowKit Go.Tre Go.Shelf Go.Lib
set_option maxRecDepth 100000 in
set_option maxHeartbeats 8000000 in
theorem insTy_shift (w0 : World) (rs : List Res) (w : World) (g n cl nb i : Nat) (xs us : List Value) (hM : Mem w0 w (rowR 28 5 (.slice (some ⟨g, 0, none⟩) n cl) n (xs) :: rowR 28 5 (.slice (some ⟨nb, 0, none⟩) 1 1) 1 (us) :: rs)) (hi : i < n) (hn : n ≤ 4194304) (hroom : n + 1 ≤ cl) (hx1 : ∀ v ∈ xs, v.oneCell' = true) (hu1 : ∀ v ∈ us, v.oneCell' = true) :
  Calls Tryz.prog 98 #[.slice (some ⟨g, 0, none⟩) n cl, .int .i64 i, .slice (some ⟨nb, 0, none⟩) 1 1] w fun e w' => e = .returned (.slice (some ⟨g, 0, none⟩) (n + 1 : Nat) cl) ∧ Mem w0 w' (rowR 28 5 (.slice (some ⟨g, 0, none⟩) (n + 1) cl) (n + 1) (xs.take (i * 5) ++ us ++ xs.drop (i * 5)) :: rowR 28 5 (.slice (some ⟨nb, 0, none⟩) 1 1) 1 (us) :: rs) := by
 have hsep := (List.pairwise_cons.1 hM.sep).1 _ (List.mem_cons_self ..)
 have hne : nb ≠ g := fun e => hsep g rfl (congrArg some e)
 obtain ⟨hxl, h0 | ⟨g', cl', cur, he, hb, hg, hnc, hcm, hcs, htk⟩⟩ := hM.row 0 rfl
 ·cases h0.1
 cases he
 obtain ⟨hul, h0 | ⟨nb', _, cun, he, _, hgn, hc1n, _, hcn, _⟩⟩ := hM.row 1 rfl
 ·cases h0.1
 cases he
 have hsz : (Tryz.prog.info? 28).map (·.size) = some 5 := by
  obtain ⟨i0, hi0, _, h1, _⟩ := info_parts infoTy
  rw [hi0]; simp [h1]
 have hso : ∀ w, (Go.sizeOf 28).run Tryz.prog w = .ok 5 w := fun w => by
  obtain ⟨i0, hi0, _, h1, _⟩ := info_parts infoTy
  simp [sizeOf, typeInfo, hi0, h1]
 have hbig : (n + 1) * 5 ≤ cl * 5 := Nat.mul_le_mul_right _ hroom
 have hR := ins_room (sz := 5) (i := i) (n := n) (cur := cur.toList) (us := us) (by omega) htk hxl (by omega) (by rw [Array.length_toList, hcs]; exact hbig)
 obtain ⟨l1, l2, l3⟩ := hR
 have hdl : (xs.drop (i * 5)).length = (n - i) * 5 := by rw [List.length_drop, hxl, Nat.sub_mul]
 obtain ⟨C1, hC1⟩ : ∃ C1, cur.toList.take ((i + 1) * 5) ++ xs.drop (i * 5) ++ cur.toList.drop ((i + 1) * 5 + (xs.drop (i * 5)).length) = C1 := ⟨_, rfl⟩
 rw [hC1] at l1 l2 l3
 obtain ⟨C2, hC2⟩ : ∃ C2, C1.take (i * 5) ++ us ++ C1.drop (i * 5 + us.length) = C2 := ⟨_, rfl⟩
 rw [hC2] at l2 l3
 have hs1 : C1.toArray.size = cl * 5 := by rw [List.size_toArray, l1, Array.length_toList, hcs]
 have hs2 : C2.toArray.size = cl * 5 := by rw [List.size_toArray, l2, Array.length_toList, hcs]
 have hcl63 : cl ≤ 9223372036854775807 := by unfold maxLen at hcm; omega
 have hmin1 : Nat.min (n + 1 - i) (n - i) = n - i := by show min _ _ = _; omega
 have hmin2 : Nat.min 1 (n + 1 - i) = 1 := by show min _ _ = _; omega
 have hcp1 : ∀ ty dc sc, (Builtin.copy_ #[25, 25] ty #[.slice (some ⟨g, (i + 1) * 5, none⟩) (n - i) dc, .slice (some ⟨g, i * 5, none⟩) (n + 1 - i) sc]).run Tryz.prog w.drew = .ok (goInt ((n - i : Nat) : Int)) (w.drew.setRow g C1.toArray) := fun ty dc sc => by
  have h := run_copy_rows (P := Tryz.prog) w.drew 25 25 ty 28 g ((i + 1) * 5) (n - i) dc ⟨g, i * 5, none⟩ (n + 1 - i) sc 5 cur 28 (xs.drop (i * 5)) Tryz.underlying25 hsz hg (by rw [hmin1, hdl]) (fun j v hj => by
   rw [Addr.add_lit]
   exact hM.cellAt 0 rfl (i * 5 + j) (by rwa [List.getElem?_drop] at hj)) (by
   rw [hdl, hcs]
   have e1 : (i + 1) * 5 + (n - i) * 5 = (n + 1) * 5 := by rw [← Nat.add_mul]; congr 1; omega
   rw [e1]; exact hbig) (fun v hv => hx1 v (List.mem_of_mem_drop hv))
  rw [hmin1, hC1] at h
  simpa only [Nat.mul_one] using h
 have hg1 : (w.drew.setRow g C1.toArray).heap[g]? = some (.cells C1.toArray 28 (0, 0)) := setRow_heap w.drew g cur C1.toArray 28 (0, 0) hg
 have hnu : ∀ (W : World), W.heap = (w.drew.setRow g C1.toArray).heap → ∀ j v, us[j]? = some v → W.cell? ⟨nb, j, none⟩ = some v := fun W hW j v hj => by
  have h1 := hM.cellAt 1 rfl j hj
  have h2 : W.heap[nb]? = w.heap[nb]? := by rw [hW]; exact rowOther w.drew g C1.toArray hne
  exact cell_heap h2 h1
 have hcp2 : ∀ (W : World), W.heap = (w.drew.setRow g C1.toArray).heap → ∀ ty dc sc, (Builtin.copy_ #[25, 25] ty #[.slice (some ⟨g, i * 5, none⟩) (n + 1 - i) dc, .slice (some ⟨nb, 0, none⟩) 1 sc]).run Tryz.prog W = .ok (goInt ((1 : Nat) : Int)) (W.setRow g C2.toArray) := fun W hW ty dc sc => by
  have h := run_copy_rows (P := Tryz.prog) W 25 25 ty 28 g (i * 5) (n + 1 - i) dc ⟨nb, 0, none⟩ 1 sc 5 C1.toArray 28 us Tryz.underlying25 hsz (by rw [hW]; exact hg1) (by rw [hmin2, hul]) (fun j v hj => by
   rw [Addr.add_lit, Nat.zero_add]
   exact hnu W hW j v hj) (by
   rw [hs1, hul]
   have e1 : i * 5 + 1 * 5 = (i + 1) * 5 := by rw [← Nat.add_mul]
   rw [e1]
   exact Nat.le_trans (Nat.mul_le_mul_right _ (by omega)) hbig) hu1
  rw [hmin2] at h
  have e2 : C1.toArray.toList = C1 := rfl
  rw [e2, hC2] at h
  simpa only [Nat.mul_one] using h
 have hfin : ∀ (W : World), W.heap = ((w.drew.setRow g C1.toArray).setRow g C2.toArray).heap → W.os = w.os → W.tape = w.tape → W.output = w.output → Mem w0 W (rowR 28 5 (.slice (some ⟨g, 0, none⟩) (n + 1) cl) (n + 1) (xs.take (i * 5) ++ us ++ xs.drop (i * 5)) :: rowR 28 5 (.slice (some ⟨nb, 0, none⟩) 1 1) 1 (us) :: rs) := fun W hW ho ht hou => by
  have hg2 : W.heap[g]? = some (.cells C2.toArray 28 (0, 0)) := by rw [hW]; exact setRow_heap _ g C1.toArray C2.toArray 28 (0, 0) hg1
  refine hM.upd (by rw [hW, rowSize, rowSize]; exact Nat.le_refl _) ⟨ho, ht, hou⟩ (fun k _ hk2 => ?_) (rowR 28 5 (.slice (some ⟨g, 0, none⟩) (n + 1) cl) (n + 1) (xs.take (i * 5) ++ us ++ xs.drop (i * 5))) ⟨?_, .inr ⟨g, cl, C2.toArray, rfl, Nat.zero_le _, hg2, hroom, hcm, ?_, ?_⟩⟩ (fun b hb => .inl hb)
  ·have hkg : k ≠ g := fun e => hk2 (congrArg some e.symm)
   rw [hW, rowOther _ _ _ hkg, rowOther _ _ _ hkg]; rfl
  ·have h := congrArg List.length l3
   rw [List.length_take, l2, Array.length_toList, hcs] at h
   (try simp only [Nat.mul_one] at h ⊢)
   rw [← h]
   (try simp only [Nat.mul_one] at hbig)
   omega
  ·exact hs2
  ·exact (by simpa only [Nat.mul_one] using l3)
 have hov : ∀ lb cb, (callFunc 113 #[.slice (some ⟨nb, 0, none⟩) 1 1, .slice (some ⟨g, (i + 1) * 5, none⟩) lb cb]).run Tryz.prog w = .ok (.value (.bool false)) w := fun lb cb => by
  rw [run_callFunc_extern Tryz.func113 (by kernel_rfl) (by kernel_rfl) (by kernel_rfl) (e := Extern.SlicesOverlaps.overlaps #[25, 25] #[4]) (by kernel_rfl),
   Lib.run_overlaps_apart w 25 4 28 Tryz.underlying25 5 hso ⟨nb, 0, none⟩ ⟨g, (i + 1) * 5, none⟩ 1 1 lb cb hne 28 28 cun.size cur.size (by simp [World.shape?, hgn]) (by simp [World.shape?, hg]) (by rw [hcs]; omega) (by simp [World.frozen?, hgn]) (by simp [World.frozen?, hgn])]
  rfl
 have HF := Tre.hid hfin
 have HC1 := Tre.hid hcp1
 have HC2 := Tre.hid hcp2
 have HOV := Tre.hid hov
 have hz2 : ¬ ((i : Int) = (n : Int)) := by omega
 have hb3 : (i : Int) ≤ (n : Int) + 1 := by omega
 have hb5 : (i : Int) ≤ (n : Int) := by omega
 have hb6 : ¬ (cl = i + 1) := by omega
 have hb7 : ¬ (cl = i) := by omega
 have hb8 : ¬ ((cl : Int) < (n : Int) + 1) := by omega
 have hb9 : (n : Int) + 1 ≤ (cl : Int) := by omega
 have hw1 : IntKind.i64.wrap ((i : Int) + 1) = (i : Int) + 1 := IntWalk.i64_in _ (by omega)
 have hw2 : IntKind.i64.wrap ((n : Int) + 1) = (n : Int) + 1 := IntWalk.i64_in _ (by omega)
 have htn : ((i : Int) + 1).toNat = i + 1 := by omega
 have htn2 : ((n : Int) + 1).toNat = n + 1 := by omega
 have hb10 : i ≤ n + 1 := by omega
 have hb11 : (0 : Int) ≤ (i : Int) + 1 := by omega
 clear hs1 hs2 hfin hcp1 hcp2 hov hM hsep hxl hul hg hgn hcs hcn htk hsz hso hbig l1 l2 l3 hdl hC1 hC2 hmin1 hmin2 hg1 hnu hx1 hu1 hb hc1n hnc
 have mixed : Tryz.prog.follows .mixedOrders = true := by kernel_rfl
 go_enter Tryz.func98, Tryz.ntmps98
 go_wp2_with (simp only [HOV.out])
 go_region_law_o (refine step_copy_runI rfl _ _ 25 25 rfl (.slice (some ⟨g, (i + 1) * 5, none⟩) (n - i) (cl - (i + 1))) (.slice (some ⟨g, i * 5, none⟩) (n + 1 - i) (cl - i)) (by simp [Act.eval, Act.put]) (by simp [Act.eval, Act.put]) (HC1.out 3 (cl - (i + 1)) (cl - i)) ?_)
 have hcz := HC2.out (w.drew.setRow g C1.toArray) rfl
 go_wp2_with fail
 go_ret
 exact ⟨rfl, HF.out _ rfl rfl rfl rfl⟩
set_option maxRecDepth 100000 in
set_option maxHeartbeats 8000000 in
theorem insTy_grow (w0 : World) (rs : List Res) (w : World) (g n cl nb i : Nat) (xs us : List Value) (hM : Mem w0 w (rowR 28 5 (.slice (some ⟨g, 0, none⟩) n cl) n (xs) :: rowR 28 5 (.slice (some ⟨nb, 0, none⟩) 1 1) 1 (us) :: rs)) (hi : i < n) (hn : n ≤ 4194304) (hroom : ¬ n + 1 ≤ cl) (hx1 : ∀ v ∈ xs, v.oneCell' = true) (hu1 : ∀ v ∈ us, v.oneCell' = true) :
  Calls Tryz.prog 98 #[.slice (some ⟨g, 0, none⟩) n cl, .int .i64 i, .slice (some ⟨nb, 0, none⟩) 1 1] w fun e w' => ∃ a c, e = .returned (.slice a (n + 1 : Nat) c) ∧ Mem w0 w' (rowR 28 5 (.slice a (n + 1) c) (n + 1) (xs.take (i * 5) ++ us ++ xs.drop (i * 5)) :: rowR 28 5 (.slice (some ⟨nb, 0, none⟩) 1 1) 1 (us) :: rs) := by
 obtain ⟨hxl, h0 | ⟨g', cl', cur, he, hb, hg, hnc, hcm, hcs, htk⟩⟩ := hM.row 0 rfl
 ·cases h0.1
 cases he
 obtain ⟨hul, h0 | ⟨nb', _, cun, he, _, hgn, hc1n, _, hcn, _⟩⟩ := hM.row 1 rfl
 ·cases h0.1
 cases he
 obtain ⟨i0, hi0, hz0, hz1, hz2⟩ := info_parts infoTy
 have hsz : (Tryz.prog.info? 28).map (·.size) = some 5 := by rw [hi0]; simp [hz1]
 have hgw : g < w.heap.size := (Array.getElem?_eq_some_iff.1 hg).1
 have hnw : nb < w.heap.size := (Array.getElem?_eq_some_iff.1 hgn).1
 obtain rfl : n = cl := by omega
 have hik : i + (n + 1 - i) = n + 1 := by omega
 have hkk : (n : Int) + 1 - (i : Int) = ((n + 1 - i : Nat) : Int) := by omega
 have e3 : i * 5 ≤ n * 5 := Nat.mul_le_mul_right _ (by omega)
 have hold : (Builtin.firstCells i0.size i (.slice (some ⟨g, 0, none⟩) i n)).run Tryz.prog w.drew = .ok (xs.take (i * 5)).toArray w.drew := by
  rw [hz1]
  exact run_firstCells_some w.drew 5 i ⟨g, 0, none⟩ i n (xs.take (i * 5)) (by rw [List.length_take, hxl]; omega) (fun j v hj => by
   rw [Addr.add_lit, Nat.zero_add]
   rw [List.getElem?_take] at hj
   split at hj
   ·exact hM.cellAt 0 rfl j hj
   ·cases hj)
 obtain ⟨G, hG⟩ : ∃ G, grownCap w (n + 1) n 28 = G := ⟨_, rfl⟩
 have hGn : n + 1 ≤ G := by rw [← hG]; exact grownCap_ge w _ _ _
 have hGm : G ≤ maxLen := by rw [← hG]; exact grownCap_le_maxLen w (n + 1) n 28 (by unfold maxLen; omega)
 obtain ⟨ZE, hZE⟩ : ∃ ZE, Builtin.zeroCells (.agg #[.int .i64 0, .string ⟨#[]⟩, .slice none 0 0, .slice none 0 0, .bool false] : Value).cells (n + 1 - i) ++ Builtin.zeroCells (.agg #[.int .i64 0, .string ⟨#[]⟩, .slice none 0 0, .slice none 0 0, .bool false] : Value).cells (G - (n + 1)) = ZE := ⟨_, rfl⟩
 have hzl : ZE.toList.length = (n + 1 - i) * 5 + (G - (n + 1)) * 5 := by
  rw [← hZE, Array.length_toList, Array.size_append, size_zeroCells, size_zeroCells]
  rfl
 have hR := ins_grow (sz := 5) (i := i) (n := n) (G := G - (n + 1)) (xs := xs) (us := us) (ze := ZE.toList) (by omega) hxl (by omega) hzl
 obtain ⟨l0, l1, l2, l3⟩ := hR
 have hGG : (n + 1) * 5 + (G - (n + 1)) * 5 = G * 5 := by rw [← Nat.add_mul]; congr 1; omega
 rw [hGG] at l0
 obtain ⟨C0, hC0⟩ : ∃ C0, xs.take (i * 5) ++ ZE.toList = C0 := ⟨_, rfl⟩
 rw [hC0] at l0 l1 l2 l3
 obtain ⟨C1, hC1⟩ : ∃ C1, C0.take (i * 5) ++ us ++ C0.drop (i * 5 + us.length) = C1 := ⟨_, rfl⟩
 rw [hC1] at l1 l2 l3
 obtain ⟨C2, hC2⟩ : ∃ C2, C1.take ((i + 1) * 5) ++ xs.drop (i * 5) ++ C1.drop ((i + 1) * 5 + (xs.drop (i * 5)).length) = C2 := ⟨_, rfl⟩
 rw [hC2] at l2 l3
 have hrz : ∀ ty, (Builtin.append_ #[25, 3] ty #[.slice (some ⟨g, 0, none⟩) i n, .int .i64 ((n : Int) + 1 - (i : Int))]).run Tryz.prog w = .ok (.slice (some ⟨w.heap.size, 0, none⟩) (n + 1) G) (w.drew.alloc (.cells C0.toArray 28)) := fun ty => by
  have h := Lib.run_append_grow_zeros w 25 3 ty 28 i0 _ .i64 .i64 Tryz.underlying25 Tryz.underlying3 hi0 hz0 (some ⟨g, 0, none⟩) i n (xs.take (i * 5)) hold (n + 1 - i) (by omega) (by omega) (by omega) (by omega) (by rw [hz2]; omega) (by rw [hz2, hik]; exact growslice_fits (by omega) (by omega))
  rw [hik, hG, Array.append_assoc, hZE] at h
  have e1 : (xs.take (i * 5)).toArray ++ ZE = C0.toArray := by rw [← hC0]; simp
  rw [e1] at h
  rw [hkk]
  exact h
 have hdl : (xs.drop (i * 5)).length = (n - i) * 5 := by rw [List.length_drop, hxl, Nat.sub_mul]
 have hmin1 : Nat.min 1 (n + 1 - i) = 1 := by show min _ _ = _; omega
 have hmin2 : Nat.min (n - i) (n - i) = n - i := by show min _ _ = _; omega
 have hs0 : C0.toArray.size = G * 5 := l0
 have hs1 : C1.toArray.size = G * 5 := by rw [← l0, ← l1]; rfl
 have hs2 : C2.toArray.size = G * 5 := by rw [← l0, ← l2]; rfl
 have hGs : (n + 1) * 5 ≤ G * 5 := Nat.mul_le_mul_right _ hGn
 obtain ⟨bN, hbN⟩ : ∃ bN, w.heap.size = bN := ⟨_, rfl⟩
 have hA : ∀ (W : World), W.heap = (w.drew.alloc (.cells C0.toArray 28)).heap → W.heap[bN]? = some (.cells C0.toArray 28 (0, 0)) ∧ W.heap[nb]? = w.heap[nb]? := fun W hW => by
  subst hbN
  refine ⟨?_, ?_⟩
  ·rw [hW]; exact heap_new w.drew _
  ·rw [hW]; exact heap_old w.drew _ hnw
 have hcpA : ∀ (W : World), W.heap = (w.drew.alloc (.cells C0.toArray 28)).heap → ∀ ty dc sc, (Builtin.copy_ #[25, 25] ty #[.slice (some ⟨bN, i * 5, none⟩) (n + 1 - i) dc, .slice (some ⟨nb, 0, none⟩) 1 sc]).run Tryz.prog W = .ok (goInt ((1 : Nat) : Int)) (W.setRow bN C1.toArray) := fun W hW ty dc sc => by
  have h := run_copy_rows (P := Tryz.prog) W 25 25 ty 28 bN (i * 5) (n + 1 - i) dc ⟨nb, 0, none⟩ 1 sc 5 C0.toArray 28 us Tryz.underlying25 hsz (hA W hW).1 (by rw [hmin1, hul]) (fun j v hj => by
   rw [Addr.add_lit, Nat.zero_add]
   exact cell_heap (hA W hW).2 (hM.cellAt 1 rfl j hj)) (by
   rw [hs0, hul]
   have e1 : i * 5 + 1 * 5 = (i + 1) * 5 := by rw [← Nat.add_mul]
   rw [e1]
   exact Nat.le_trans (Nat.mul_le_mul_right _ (by omega)) hGs) hu1
  rw [hmin1] at h
  have e2 : C0.toArray.toList = C0 := rfl
  rw [e2, hC1] at h
  simpa only [Nat.mul_one] using h
 have hB : ∀ (W : World), W.heap = ((w.drew.alloc (.cells C0.toArray 28)).setRow bN C1.toArray).heap → W.heap[bN]? = some (.cells C1.toArray 28 (0, 0)) ∧ W.heap[g]? = w.heap[g]? := fun W hW => by
  subst hbN
  refine ⟨?_, ?_⟩
  ·rw [hW]; exact setRow_heap _ _ C0.toArray C1.toArray 28 (0, 0) (heap_new w.drew _)
  ·rw [hW, rowOther _ _ _ (by omega)]; exact heap_old w.drew _ hgw
 have hcpB : ∀ (W : World), W.heap = ((w.drew.alloc (.cells C0.toArray 28)).setRow bN C1.toArray).heap → ∀ ty dc sc, (Builtin.copy_ #[25, 25] ty #[.slice (some ⟨bN, (i + 1) * 5, none⟩) (n - i) dc, .slice (some ⟨g, i * 5, none⟩) (n - i) sc]).run Tryz.prog W = .ok (goInt ((n - i : Nat) : Int)) (W.setRow bN C2.toArray) := fun W hW ty dc sc => by
  have h := run_copy_rows (P := Tryz.prog) W 25 25 ty 28 bN ((i + 1) * 5) (n - i) dc ⟨g, i * 5, none⟩ (n - i) sc 5 C1.toArray 28 (xs.drop (i * 5)) Tryz.underlying25 hsz (hB W hW).1 (by rw [hmin2, hdl]) (fun j v hj => by
   rw [Addr.add_lit]
   exact cell_heap (hB W hW).2 (hM.cellAt 0 rfl (i * 5 + j) (by rwa [List.getElem?_drop] at hj))) (by
   rw [hdl, hs1]
   have e1 : (i + 1) * 5 + (n - i) * 5 = (n + 1) * 5 := by rw [← Nat.add_mul]; congr 1; omega
   rw [e1]; exact hGs) (fun v hv => hx1 v (List.mem_of_mem_drop hv))
  rw [hmin2] at h
  have e2 : C1.toArray.toList = C1 := rfl
  rw [e2, hC2] at h
  simpa only [Nat.mul_one] using h
 have hfin : ∀ (W : World), W.heap = (((w.drew.alloc (.cells C0.toArray 28)).setRow bN C1.toArray).setRow bN C2.toArray).heap → W.os = w.os → W.tape = w.tape → W.output = w.output → Mem w0 W (rowR 28 5 (.slice (some ⟨bN, 0, none⟩) (n + 1) G) (n + 1) (xs.take (i * 5) ++ us ++ xs.drop (i * 5)) :: rowR 28 5 (.slice (some ⟨nb, 0, none⟩) 1 1) 1 (us) :: rs) := fun W hW ho ht hou => by
  have hg2 : W.heap[bN]? = some (.cells C2.toArray 28 (0, 0)) := by rw [hW]; exact setRow_heap _ bN C1.toArray C2.toArray 28 (0, 0) (hB _ rfl).1
  refine hM.upd (by rw [hW, rowSize, rowSize]; exact Nat.le_of_lt (by rw [World.size_alloc]; exact Nat.lt_succ_self _)) ⟨ho, ht, hou⟩ (fun k hk _ => ?_) (rowR 28 5 (.slice (some ⟨bN, 0, none⟩) (n + 1) G) (n + 1) (xs.take (i * 5) ++ us ++ xs.drop (i * 5))) ⟨?_, .inr ⟨bN, G, C2.toArray, rfl, Nat.zero_le _, hg2, hGn, hGm, ?_, ?_⟩⟩ (fun b hb => .inr (by have h := Option.some.inj hb; subst hbN; exact Nat.le_of_eq h))
  ·have hkg : k ≠ bN := by omega
   rw [hW, rowOther _ _ _ hkg, rowOther _ _ _ hkg]
   exact heap_old w.drew _ hk
  ·have h := congrArg List.length l3
   rw [List.length_take, show C2.length = G * 5 from hs2] at h
   (try simp only [Nat.mul_one] at h ⊢)
   rw [← h]
   (try simp only [Nat.mul_one] at hGs)
   omega
  ·exact hs2
  ·exact (by simpa only [Nat.mul_one] using l3)
 have HF := Tre.hid hfin
 have HCA := Tre.hid hcpA
 have HCB := Tre.hid hcpB
 have HRZ := Tre.hid hrz
 have hz2' : ¬ ((i : Int) = (n : Int)) := by omega
 have hb5 : (i : Int) ≤ (n : Int) := by omega
 have hb6 : ¬ (G = i + 1) := by omega
 have hb7 : ¬ (G = i) := by omega
 have hb7' : ¬ (n = i) := by omega
 have hb8 : (n : Int) < (n : Int) + 1 := by omega
 have hb9 : i ≤ n + 1 := by omega
 have hb3 : (i : Int) ≤ (n : Int) + 1 := by omega
 have hb10 : (i : Int) ≤ (n : Int) := by omega
 have hw1 : IntKind.i64.wrap ((i : Int) + 1) = (i : Int) + 1 := IntWalk.i64_in _ (by omega)
 have hw2 : IntKind.i64.wrap ((n : Int) + 1) = (n : Int) + 1 := IntWalk.i64_in _ (by omega)
 have hw3 : IntKind.i64.wrap ((n : Int) + 1 - (i : Int)) = (n : Int) + 1 - (i : Int) := IntWalk.i64_in _ (by omega)
 have htn : ((i : Int) + 1).toNat = i + 1 := by omega
 have hb11 : (0 : Int) ≤ (i : Int) + 1 := by omega
 clear hfin hcpA hcpB hrz hM hxl hul hg hgn hcs hcn htk hsz l0 l1 l2 l3 hdl hC0 hC1 hC2 hmin1 hmin2 hx1 hu1 hb hc1n hnc hold hi0 hz0 hz1 hz2 hik hkk e3 hG hGm hZE hzl hGG hs0 hs1 hs2 hGs hA hB hgw hnw
 have mixed : Tryz.prog.follows .mixedOrders = true := by kernel_rfl
 rw [hbN] at HRZ
 have hca := HCA.out ((w.alloc (.cells C0.toArray 28)).drew) rfl
 go_enter Tryz.func98, Tryz.ntmps98
 go_wp2_with (at_builtin; refine Lib.wpList_append_run _ rfl _ _ 25 3 rfl (.slice (some ⟨g, 0, none⟩) i n) (.int .i64 ((n : Int) + 1 - (i : Int))) rfl rfl _ _ (HRZ.out 25) ?_)
 go_region_law_o (refine step_copy_runI rfl _ _ 25 25 rfl (.slice (some ⟨bN, (i + 1) * 5, none⟩) (n - i) (G - (i + 1))) (.slice (some ⟨g, i * 5, none⟩) (n - i) (n - i)) (by simp [Act.eval, Act.put]) (by simp [Act.eval, Act.put]) (HCB.out (((w.alloc (.cells C0.toArray 28)).drew.setRow bN C1.toArray).drew) rfl 3 (G - (i + 1)) (n - i)) ?_)
 go_wp2_with fail
 go_ret
 exact ⟨_, _, rfl, HF.out _ rfl rfl rfl rfl⟩
theorem insTyAt (w0 : World) (rs : List Res) (w : World) (al : Option Addr) (n cl nb i : Nat) (xs : List Value) (us : List Value) (hM : Mem w0 w (rowR 28 5 (.slice al n cl) n (xs) :: rowR 28 5 (.slice (some ⟨nb, 0, none⟩) 1 1) 1 (us) :: rs)) (hi : i ≤ n) (hn : n ≤ 4194304) (hx1 : ∀ v ∈ xs, v.oneCell' = true) (hu : ∀ u ∈ us, u.oneCell' = true) :
  Calls Tryz.prog 98 #[.slice al n cl, .int .i64 i, .slice (some ⟨nb, 0, none⟩) 1 1] w fun e w' => ∃ a c, e = .returned (.slice a (n + 1 : Nat) c) ∧ Mem w0 w' (rowR 28 5 (.slice a (n + 1) c) (n + 1) (xs.take (i * 5) ++ us ++ xs.drop (i * 5)) :: rowR 28 5 (.slice (some ⟨nb, 0, none⟩) 1 1) 1 (us) :: rs) := by
 have hxl := (hM.row 0 rfl).1
 by_cases hin : i = n
 ·subst hin
  have e1 : xs.take (i * 5) = xs := List.take_of_length_le (by omega)
  have e2 : xs.drop (i * 5) = [] := List.drop_of_length_le (by omega)
  rw [e1, e2, List.append_nil]
  exact insTy w0 rs w al i cl nb xs us hM hn hu
 ·obtain ⟨_, h0 | ⟨g, cl', _, he, _⟩⟩ := hM.row 0 rfl
  ·have := h0.2; omega
  cases he
  by_cases hroom : n + 1 ≤ cl
  ·refine (insTy_shift w0 rs w g n cl nb i xs us hM (by omega) hn hroom hx1 hu).mono ?_
   rintro e w' ⟨rfl, m⟩
   exact ⟨_, _, rfl, m⟩
  ·exact insTy_grow w0 rs w g n cl nb i xs us hM (by omega) hn hroom hx1 hu
end Go.Proofs.YtbafalfmgibnfaaGreatDoor.typ
