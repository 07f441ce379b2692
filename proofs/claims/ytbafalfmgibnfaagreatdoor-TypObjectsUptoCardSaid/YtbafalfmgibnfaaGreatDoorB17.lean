/- slices.Insert anywhere in a row: strings. labels and parts that go in anywhere: plain, in memory; slices.BinarySearch among labels that rise. -/
import Derived.Test.YtbafalfmgibnfaaGreatDoorB16
import Derived.Test.YtbafalfmgibnfaaGreatDoorB15
set_option linter.unusedVariables false
namespace Go.Proofs.YtbafalfmgibnfaaGreatDoor.typ
open Go.RowKit Go.Tre Go.Shelf Go.Lib
set_option maxRecDepth 100000 in
set_option maxHeartbeats 8000000 in
theorem insStr_shift (w0 : World) (rs : List Res) (w : World) (g n cl nb i : Nat) (xs us : List Value) (hM : Mem w0 w (rowR 9 1 (.slice (some ⟨g, 0, none⟩) n cl) n (xs) :: rowR 9 1 (.slice (some ⟨nb, 0, none⟩) 1 1) 1 (us) :: rs)) (hi : i < n) (hn : n ≤ 4194304) (hroom : n + 1 ≤ cl) (hx1 : ∀ v ∈ xs, v.oneCell' = true) (hu1 : ∀ v ∈ us, v.oneCell' = true) :
  Calls Tryz.prog 97 #[.slice (some ⟨g, 0, none⟩) n cl, .int .i64 i, .slice (some ⟨nb, 0, none⟩) 1 1] w fun e w' => e = .returned (.slice (some ⟨g, 0, none⟩) (n + 1 : Nat) cl) ∧ Mem w0 w' (rowR 9 1 (.slice (some ⟨g, 0, none⟩) (n + 1) cl) (n + 1) (xs.take (i) ++ us ++ xs.drop (i)) :: rowR 9 1 (.slice (some ⟨nb, 0, none⟩) 1 1) 1 (us) :: rs) := by
 have hsep := (List.pairwise_cons.1 hM.sep).1 _ (List.mem_cons_self ..)
 have hne : nb ≠ g := fun e => hsep g rfl (congrArg some e)
 obtain ⟨hxl, h0 | ⟨g', cl', cur, he, hb, hg, hnc, hcm, hcs, htk⟩⟩ := hM.row 0 rfl
 ·cases h0.1
 cases he
 obtain ⟨hul, h0 | ⟨nb', _, cun, he, _, hgn, hc1n, _, hcn, _⟩⟩ := hM.row 1 rfl
 ·cases h0.1
 cases he
 have hsz : (Tryz.prog.info? 9).map (·.size) = some 1 := by
  obtain ⟨i0, hi0, _, h1, _⟩ := info_parts infoStr
  rw [hi0]; simp [h1]
 have hso : ∀ w, (Go.sizeOf 9).run Tryz.prog w = .ok 1 w := fun w => by
  obtain ⟨i0, hi0, _, h1, _⟩ := info_parts infoStr
  simp [sizeOf, typeInfo, hi0, h1]
 have hbig : (n + 1) * 1 ≤ cl * 1 := Nat.mul_le_mul_right _ hroom
 have hR := ins_room (sz := 1) (i := i) (n := n) (cur := cur.toList) (us := us) (by omega) htk hxl (by omega) (by rw [Array.length_toList, hcs]; exact hbig)
 obtain ⟨l1, l2, l3⟩ := hR
 have hdl : (xs.drop (i * 1)).length = (n - i) * 1 := by rw [List.length_drop, hxl, Nat.sub_mul]
 obtain ⟨C1, hC1⟩ : ∃ C1, cur.toList.take ((i + 1) * 1) ++ xs.drop (i * 1) ++ cur.toList.drop ((i + 1) * 1 + (xs.drop (i * 1)).length) = C1 := ⟨_, rfl⟩
 rw [hC1] at l1 l2 l3
 obtain ⟨C2, hC2⟩ : ∃ C2, C1.take (i * 1) ++ us ++ C1.drop (i * 1 + us.length) = C2 := ⟨_, rfl⟩
 rw [hC2] at l2 l3
 have hs1 : C1.toArray.size = cl * 1 := by rw [List.size_toArray, l1, Array.length_toList, hcs]
 have hs2 : C2.toArray.size = cl * 1 := by rw [List.size_toArray, l2, Array.length_toList, hcs]
 have hcl63 : cl ≤ 9223372036854775807 := by unfold maxLen at hcm; omega
 have hmin1 : Nat.min (n + 1 - i) (n - i) = n - i := by show min _ _ = _; omega
 have hmin2 : Nat.min 1 (n + 1 - i) = 1 := by show min _ _ = _; omega
 have hcp1 : ∀ ty dc sc, (Builtin.copy_ #[26, 26] ty #[.slice (some ⟨g, i + 1, none⟩) (n - i) dc, .slice (some ⟨g, i, none⟩) (n + 1 - i) sc]).run Tryz.prog w.drew = .ok (goInt ((n - i : Nat) : Int)) (w.drew.setRow g C1.toArray) := fun ty dc sc => by
  have h := run_copy_rows (P := Tryz.prog) w.drew 26 26 ty 9 g ((i + 1) * 1) (n - i) dc ⟨g, i * 1, none⟩ (n + 1 - i) sc 1 cur 9 (xs.drop (i * 1)) Tryz.underlying26 hsz hg (by rw [hmin1, hdl]) (fun j v hj => by
   rw [Addr.add_lit]
   exact hM.cellAt 0 rfl (i * 1 + j) (by rwa [List.getElem?_drop] at hj)) (by
   rw [hdl, hcs]
   have e1 : (i + 1) * 1 + (n - i) * 1 = (n + 1) * 1 := by rw [← Nat.add_mul]; congr 1; omega
   rw [e1]; exact hbig) (fun v hv => hx1 v (List.mem_of_mem_drop hv))
  rw [hmin1, hC1] at h
  simpa only [Nat.mul_one] using h
 have hg1 : (w.drew.setRow g C1.toArray).heap[g]? = some (.cells C1.toArray 9 (0, 0)) := setRow_heap w.drew g cur C1.toArray 9 (0, 0) hg
 have hnu : ∀ (W : World), W.heap = (w.drew.setRow g C1.toArray).heap → ∀ j v, us[j]? = some v → W.cell? ⟨nb, j, none⟩ = some v := fun W hW j v hj => by
  have h1 := hM.cellAt 1 rfl j hj
  have h2 : W.heap[nb]? = w.heap[nb]? := by rw [hW]; exact rowOther w.drew g C1.toArray hne
  exact cell_heap h2 h1
 have hcp2 : ∀ (W : World), W.heap = (w.drew.setRow g C1.toArray).heap → ∀ ty dc sc, (Builtin.copy_ #[26, 26] ty #[.slice (some ⟨g, i, none⟩) (n + 1 - i) dc, .slice (some ⟨nb, 0, none⟩) 1 sc]).run Tryz.prog W = .ok (goInt ((1 : Nat) : Int)) (W.setRow g C2.toArray) := fun W hW ty dc sc => by
  have h := run_copy_rows (P := Tryz.prog) W 26 26 ty 9 g (i * 1) (n + 1 - i) dc ⟨nb, 0, none⟩ 1 sc 1 C1.toArray 9 us Tryz.underlying26 hsz (by rw [hW]; exact hg1) (by rw [hmin2, hul]) (fun j v hj => by
   rw [Addr.add_lit, Nat.zero_add]
   exact hnu W hW j v hj) (by
   rw [hs1, hul]
   have e1 : i * 1 + 1 * 1 = (i + 1) * 1 := by rw [← Nat.add_mul]
   rw [e1]
   exact Nat.le_trans (Nat.mul_le_mul_right _ (by omega)) hbig) hu1
  rw [hmin2] at h
  have e2 : C1.toArray.toList = C1 := rfl
  rw [e2, hC2] at h
  simpa only [Nat.mul_one] using h
 have hfin : ∀ (W : World), W.heap = ((w.drew.setRow g C1.toArray).setRow g C2.toArray).heap → W.os = w.os → W.tape = w.tape → W.output = w.output → Mem w0 W (rowR 9 1 (.slice (some ⟨g, 0, none⟩) (n + 1) cl) (n + 1) (xs.take (i) ++ us ++ xs.drop (i)) :: rowR 9 1 (.slice (some ⟨nb, 0, none⟩) 1 1) 1 (us) :: rs) := fun W hW ho ht hou => by
  have hg2 : W.heap[g]? = some (.cells C2.toArray 9 (0, 0)) := by rw [hW]; exact setRow_heap _ g C1.toArray C2.toArray 9 (0, 0) hg1
  refine hM.upd (by rw [hW, rowSize, rowSize]; exact Nat.le_refl _) ⟨ho, ht, hou⟩ (fun k _ hk2 => ?_) (rowR 9 1 (.slice (some ⟨g, 0, none⟩) (n + 1) cl) (n + 1) (xs.take (i) ++ us ++ xs.drop (i))) ⟨?_, .inr ⟨g, cl, C2.toArray, rfl, Nat.zero_le _, hg2, hroom, hcm, ?_, ?_⟩⟩ (fun b hb => .inl hb)
  ·have hkg : k ≠ g := fun e => hk2 (congrArg some e.symm)
   rw [hW, rowOther _ _ _ hkg, rowOther _ _ _ hkg]; rfl
  ·have h := congrArg List.length l3
   rw [List.length_take, l2, Array.length_toList, hcs] at h
   (try simp only [Nat.mul_one] at h ⊢)
   rw [← h]
   (try simp only [Nat.mul_one] at hbig)
   omega
  ·exact hs2
  ·exact (by simpa only [Nat.mul_one] using l3)
 have hov : ∀ lb cb, (callFunc 111 #[.slice (some ⟨nb, 0, none⟩) 1 1, .slice (some ⟨g, i + 1, none⟩) lb cb]).run Tryz.prog w = .ok (.value (.bool false)) w := fun lb cb => by
  rw [run_callFunc_extern Tryz.func111 (by kernel_rfl) (by kernel_rfl) (by kernel_rfl) (e := Extern.SlicesOverlaps.overlaps #[26, 26] #[4]) (by kernel_rfl),
   Lib.run_overlaps_apart w 26 4 9 Tryz.underlying26 1 hso ⟨nb, 0, none⟩ ⟨g, i + 1, none⟩ 1 1 lb cb hne 9 9 cun.size cur.size (by simp [World.shape?, hgn]) (by simp [World.shape?, hg]) (by rw [hcs]; omega) (by simp [World.frozen?, hgn]) (by simp [World.frozen?, hgn])]
  rfl
 have HF := Tre.hid hfin
 have HC1 := Tre.hid hcp1
 have HC2 := Tre.hid hcp2
 have HOV := Tre.hid hov
 have hz2 : ¬ ((i : Int) = (n : Int)) := by omega
 have hb3 : (i : Int) ≤ (n : Int) + 1 := by omega
 have hb5 : (i : Int) ≤ (n : Int) := by omega
 have hb6 : ¬ (cl = i + 1) := by omega
 have hb7 : ¬ (cl = i) := by omega
 have hb8 : ¬ ((cl : Int) < (n : Int) + 1) := by omega
 have hb9 : (n : Int) + 1 ≤ (cl : Int) := by omega
 have hw1 : IntKind.i64.wrap ((i : Int) + 1) = (i : Int) + 1 := IntWalk.i64_in _ (by omega)
 have hw2 : IntKind.i64.wrap ((n : Int) + 1) = (n : Int) + 1 := IntWalk.i64_in _ (by omega)
 have htn : ((i : Int) + 1).toNat = i + 1 := by omega
 have htn2 : ((n : Int) + 1).toNat = n + 1 := by omega
 have hb10 : i ≤ n + 1 := by omega
 have hb11 : (0 : Int) ≤ (i : Int) + 1 := by omega
 clear hs1 hs2 hfin hcp1 hcp2 hov hM hsep hxl hul hg hgn hcs hcn htk hsz hso hbig l1 l2 l3 hdl hC1 hC2 hmin1 hmin2 hg1 hnu hx1 hu1 hb hc1n hnc
 have mixed : Tryz.prog.follows .mixedOrders = true := by kernel_rfl
 go_enter Tryz.func97, Tryz.ntmps97
 go_wp2_with (simp only [HOV.out])
 go_region_law_o (refine step_copy_runI rfl _ _ 26 26 rfl (.slice (some ⟨g, i + 1, none⟩) (n - i) (cl - (i + 1))) (.slice (some ⟨g, i, none⟩) (n + 1 - i) (cl - i)) (by simp [Act.eval, Act.put]) (by simp [Act.eval, Act.put]) (HC1.out 3 (cl - (i + 1)) (cl - i)) ?_)
 have hcz := HC2.out (w.drew.setRow g C1.toArray) rfl
 go_wp2_with fail
 go_ret
 exact ⟨rfl, HF.out _ rfl rfl rfl rfl⟩
set_option maxRecDepth 100000 in
set_option maxHeartbeats 8000000 in
theorem insStr_grow (w0 : World) (rs : List Res) (w : World) (g n cl nb i : Nat) (xs us : List Value) (hM : Mem w0 w (rowR 9 1 (.slice (some ⟨g, 0, none⟩) n cl) n (xs) :: rowR 9 1 (.slice (some ⟨nb, 0, none⟩) 1 1) 1 (us) :: rs)) (hi : i < n) (hn : n ≤ 4194304) (hroom : ¬ n + 1 ≤ cl) (hx1 : ∀ v ∈ xs, v.oneCell' = true) (hu1 : ∀ v ∈ us, v.oneCell' = true) :
  Calls Tryz.prog 97 #[.slice (some ⟨g, 0, none⟩) n cl, .int .i64 i, .slice (some ⟨nb, 0, none⟩) 1 1] w fun e w' => ∃ a c, e = .returned (.slice a (n + 1 : Nat) c) ∧ Mem w0 w' (rowR 9 1 (.slice a (n + 1) c) (n + 1) (xs.take (i) ++ us ++ xs.drop (i)) :: rowR 9 1 (.slice (some ⟨nb, 0, none⟩) 1 1) 1 (us) :: rs) := by
 obtain ⟨hxl, h0 | ⟨g', cl', cur, he, hb, hg, hnc, hcm, hcs, htk⟩⟩ := hM.row 0 rfl
 ·cases h0.1
 cases he
 obtain ⟨hul, h0 | ⟨nb', _, cun, he, _, hgn, hc1n, _, hcn, _⟩⟩ := hM.row 1 rfl
 ·cases h0.1
 cases he
 obtain ⟨i0, hi0, hz0, hz1, hz2⟩ := info_parts infoStr
 have hsz : (Tryz.prog.info? 9).map (·.size) = some 1 := by rw [hi0]; simp [hz1]
 have hgw : g < w.heap.size := (Array.getElem?_eq_some_iff.1 hg).1
 have hnw : nb < w.heap.size := (Array.getElem?_eq_some_iff.1 hgn).1
 obtain rfl : n = cl := by omega
 have hik : i + (n + 1 - i) = n + 1 := by omega
 have hkk : (n : Int) + 1 - (i : Int) = ((n + 1 - i : Nat) : Int) := by omega
 have e3 : i * 1 ≤ n * 1 := Nat.mul_le_mul_right _ (by omega)
 have hold : (Builtin.firstCells i0.size i (.slice (some ⟨g, 0, none⟩) i n)).run Tryz.prog w.drew = .ok (xs.take (i * 1)).toArray w.drew := by
  rw [hz1]
  exact run_firstCells_some w.drew 1 i ⟨g, 0, none⟩ i n (xs.take (i * 1)) (by rw [List.length_take, hxl]; omega) (fun j v hj => by
   rw [Addr.add_lit, Nat.zero_add]
   rw [List.getElem?_take] at hj
   split at hj
   ·exact hM.cellAt 0 rfl j hj
   ·cases hj)
 obtain ⟨G, hG⟩ : ∃ G, grownCap w (n + 1) n 9 = G := ⟨_, rfl⟩
 have hGn : n + 1 ≤ G := by rw [← hG]; exact grownCap_ge w _ _ _
 have hGm : G ≤ maxLen := by rw [← hG]; exact grownCap_le_maxLen w (n + 1) n 9 (by unfold maxLen; omega)
 obtain ⟨ZE, hZE⟩ : ∃ ZE, Builtin.zeroCells (.string ⟨#[]⟩ : Value).cells (n + 1 - i) ++ Builtin.zeroCells (.string ⟨#[]⟩ : Value).cells (G - (n + 1)) = ZE := ⟨_, rfl⟩
 have hzl : ZE.toList.length = (n + 1 - i) * 1 + (G - (n + 1)) * 1 := by
  rw [← hZE, Array.length_toList, Array.size_append, size_zeroCells, size_zeroCells]
  rfl
 have hR := ins_grow (sz := 1) (i := i) (n := n) (G := G - (n + 1)) (xs := xs) (us := us) (ze := ZE.toList) (by omega) hxl (by omega) hzl
 obtain ⟨l0, l1, l2, l3⟩ := hR
 have hGG : (n + 1) * 1 + (G - (n + 1)) * 1 = G * 1 := by rw [← Nat.add_mul]; congr 1; omega
 rw [hGG] at l0
 obtain ⟨C0, hC0⟩ : ∃ C0, xs.take (i * 1) ++ ZE.toList = C0 := ⟨_, rfl⟩
 rw [hC0] at l0 l1 l2 l3
 obtain ⟨C1, hC1⟩ : ∃ C1, C0.take (i * 1) ++ us ++ C0.drop (i * 1 + us.length) = C1 := ⟨_, rfl⟩
 rw [hC1] at l1 l2 l3
 obtain ⟨C2, hC2⟩ : ∃ C2, C1.take ((i + 1) * 1) ++ xs.drop (i * 1) ++ C1.drop ((i + 1) * 1 + (xs.drop (i * 1)).length) = C2 := ⟨_, rfl⟩
 rw [hC2] at l2 l3
 have hrz : ∀ ty, (Builtin.append_ #[26, 3] ty #[.slice (some ⟨g, 0, none⟩) i n, .int .i64 ((n : Int) + 1 - (i : Int))]).run Tryz.prog w = .ok (.slice (some ⟨w.heap.size, 0, none⟩) (n + 1) G) (w.drew.alloc (.cells C0.toArray 9)) := fun ty => by
  have h := Lib.run_append_grow_zeros w 26 3 ty 9 i0 _ .i64 .i64 Tryz.underlying26 Tryz.underlying3 hi0 hz0 (some ⟨g, 0, none⟩) i n (xs.take (i * 1)) hold (n + 1 - i) (by omega) (by omega) (by omega) (by omega) (by rw [hz2]; omega) (by rw [hz2, hik]; exact growslice_fits (by omega) (by omega))
  rw [hik, hG, Array.append_assoc, hZE] at h
  have e1 : (xs.take (i * 1)).toArray ++ ZE = C0.toArray := by rw [← hC0]; simp
  rw [e1] at h
  rw [hkk]
  exact h
 have hdl : (xs.drop (i * 1)).length = (n - i) * 1 := by rw [List.length_drop, hxl, Nat.sub_mul]
 have hmin1 : Nat.min 1 (n + 1 - i) = 1 := by show min _ _ = _; omega
 have hmin2 : Nat.min (n - i) (n - i) = n - i := by show min _ _ = _; omega
 have hs0 : C0.toArray.size = G * 1 := l0
 have hs1 : C1.toArray.size = G * 1 := by rw [← l0, ← l1]; rfl
 have hs2 : C2.toArray.size = G * 1 := by rw [← l0, ← l2]; rfl
 have hGs : (n + 1) * 1 ≤ G * 1 := Nat.mul_le_mul_right _ hGn
 obtain ⟨bN, hbN⟩ : ∃ bN, w.heap.size = bN := ⟨_, rfl⟩
 have hA : ∀ (W : World), W.heap = (w.drew.alloc (.cells C0.toArray 9)).heap → W.heap[bN]? = some (.cells C0.toArray 9 (0, 0)) ∧ W.heap[nb]? = w.heap[nb]? := fun W hW => by
  subst hbN
  refine ⟨?_, ?_⟩
  ·rw [hW]; exact heap_new w.drew _
  ·rw [hW]; exact heap_old w.drew _ hnw
 have hcpA : ∀ (W : World), W.heap = (w.drew.alloc (.cells C0.toArray 9)).heap → ∀ ty dc sc, (Builtin.copy_ #[26, 26] ty #[.slice (some ⟨bN, i, none⟩) (n + 1 - i) dc, .slice (some ⟨nb, 0, none⟩) 1 sc]).run Tryz.prog W = .ok (goInt ((1 : Nat) : Int)) (W.setRow bN C1.toArray) := fun W hW ty dc sc => by
  have h := run_copy_rows (P := Tryz.prog) W 26 26 ty 9 bN (i * 1) (n + 1 - i) dc ⟨nb, 0, none⟩ 1 sc 1 C0.toArray 9 us Tryz.underlying26 hsz (hA W hW).1 (by rw [hmin1, hul]) (fun j v hj => by
   rw [Addr.add_lit, Nat.zero_add]
   exact cell_heap (hA W hW).2 (hM.cellAt 1 rfl j hj)) (by
   rw [hs0, hul]
   have e1 : i * 1 + 1 * 1 = (i + 1) * 1 := by rw [← Nat.add_mul]
   rw [e1]
   exact Nat.le_trans (Nat.mul_le_mul_right _ (by omega)) hGs) hu1
  rw [hmin1] at h
  have e2 : C0.toArray.toList = C0 := rfl
  rw [e2, hC1] at h
  simpa only [Nat.mul_one] using h
 have hB : ∀ (W : World), W.heap = ((w.drew.alloc (.cells C0.toArray 9)).setRow bN C1.toArray).heap → W.heap[bN]? = some (.cells C1.toArray 9 (0, 0)) ∧ W.heap[g]? = w.heap[g]? := fun W hW => by
  subst hbN
  refine ⟨?_, ?_⟩
  ·rw [hW]; exact setRow_heap _ _ C0.toArray C1.toArray 9 (0, 0) (heap_new w.drew _)
  ·rw [hW, rowOther _ _ _ (by omega)]; exact heap_old w.drew _ hgw
 have hcpB : ∀ (W : World), W.heap = ((w.drew.alloc (.cells C0.toArray 9)).setRow bN C1.toArray).heap → ∀ ty dc sc, (Builtin.copy_ #[26, 26] ty #[.slice (some ⟨bN, i + 1, none⟩) (n - i) dc, .slice (some ⟨g, i, none⟩) (n - i) sc]).run Tryz.prog W = .ok (goInt ((n - i : Nat) : Int)) (W.setRow bN C2.toArray) := fun W hW ty dc sc => by
  have h := run_copy_rows (P := Tryz.prog) W 26 26 ty 9 bN ((i + 1) * 1) (n - i) dc ⟨g, i * 1, none⟩ (n - i) sc 1 C1.toArray 9 (xs.drop (i * 1)) Tryz.underlying26 hsz (hB W hW).1 (by rw [hmin2, hdl]) (fun j v hj => by
   rw [Addr.add_lit]
   exact cell_heap (hB W hW).2 (hM.cellAt 0 rfl (i * 1 + j) (by rwa [List.getElem?_drop] at hj))) (by
   rw [hdl, hs1]
   have e1 : (i + 1) * 1 + (n - i) * 1 = (n + 1) * 1 := by rw [← Nat.add_mul]; congr 1; omega
   rw [e1]; exact hGs) (fun v hv => hx1 v (List.mem_of_mem_drop hv))
  rw [hmin2] at h
  have e2 : C1.toArray.toList = C1 := rfl
  rw [e2, hC2] at h
  simpa only [Nat.mul_one] using h
 have hfin : ∀ (W : World), W.heap = (((w.drew.alloc (.cells C0.toArray 9)).setRow bN C1.toArray).setRow bN C2.toArray).heap → W.os = w.os → W.tape = w.tape → W.output = w.output → Mem w0 W (rowR 9 1 (.slice (some ⟨bN, 0, none⟩) (n + 1) G) (n + 1) (xs.take (i) ++ us ++ xs.drop (i)) :: rowR 9 1 (.slice (some ⟨nb, 0, none⟩) 1 1) 1 (us) :: rs) := fun W hW ho ht hou => by
  have hg2 : W.heap[bN]? = some (.cells C2.toArray 9 (0, 0)) := by rw [hW]; exact setRow_heap _ bN C1.toArray C2.toArray 9 (0, 0) (hB _ rfl).1
  refine hM.upd (by rw [hW, rowSize, rowSize]; exact Nat.le_of_lt (by rw [World.size_alloc]; exact Nat.lt_succ_self _)) ⟨ho, ht, hou⟩ (fun k hk _ => ?_) (rowR 9 1 (.slice (some ⟨bN, 0, none⟩) (n + 1) G) (n + 1) (xs.take (i) ++ us ++ xs.drop (i))) ⟨?_, .inr ⟨bN, G, C2.toArray, rfl, Nat.zero_le _, hg2, hGn, hGm, ?_, ?_⟩⟩ (fun b hb => .inr (by have h := Option.some.inj hb; subst hbN; exact Nat.le_of_eq h))
  ·have hkg : k ≠ bN := by omega
   rw [hW, rowOther _ _ _ hkg, rowOther _ _ _ hkg]
   exact heap_old w.drew _ hk
  ·have h := congrArg List.length l3
   rw [List.length_take, show C2.length = G * 1 from hs2] at h
   (try simp only [Nat.mul_one] at h ⊢)
   rw [← h]
   (try simp only [Nat.mul_one] at hGs)
   omega
  ·exact hs2
  ·exact (by simpa only [Nat.mul_one] using l3)
 have HF := Tre.hid hfin
 have HCA := Tre.hid hcpA
 have HCB := Tre.hid hcpB
 have HRZ := Tre.hid hrz
 have hz2' : ¬ ((i : Int) = (n : Int)) := by omega
 have hb5 : (i : Int) ≤ (n : Int) := by omega
 have hb6 : ¬ (G = i + 1) := by omega
 have hb7 : ¬ (G = i) := by omega
 have hb7' : ¬ (n = i) := by omega
 have hb8 : (n : Int) < (n : Int) + 1 := by omega
 have hb9 : i ≤ n + 1 := by omega
 have hb3 : (i : Int) ≤ (n : Int) + 1 := by omega
 have hb10 : (i : Int) ≤ (n : Int) := by omega
 have hw1 : IntKind.i64.wrap ((i : Int) + 1) = (i : Int) + 1 := IntWalk.i64_in _ (by omega)
 have hw2 : IntKind.i64.wrap ((n : Int) + 1) = (n : Int) + 1 := IntWalk.i64_in _ (by omega)
 have hw3 : IntKind.i64.wrap ((n : Int) + 1 - (i : Int)) = (n : Int) + 1 - (i : Int) := IntWalk.i64_in _ (by omega)
 have htn : ((i : Int) + 1).toNat = i + 1 := by omega
 have hb11 : (0 : Int) ≤ (i : Int) + 1 := by omega
 clear hfin hcpA hcpB hrz hM hxl hul hg hgn hcs hcn htk hsz l0 l1 l2 l3 hdl hC0 hC1 hC2 hmin1 hmin2 hx1 hu1 hb hc1n hnc hold hi0 hz0 hz1 hz2 hik hkk e3 hG hGm hZE hzl hGG hs0 hs1 hs2 hGs hA hB hgw hnw
 have mixed : Tryz.prog.follows .mixedOrders = true := by kernel_rfl
 rw [hbN] at HRZ
 have hca := HCA.out ((w.alloc (.cells C0.toArray 9)).drew) rfl
 go_enter Tryz.func97, Tryz.ntmps97
 go_wp2_with (at_builtin; refine Lib.wpList_append_run _ rfl _ _ 26 3 rfl (.slice (some ⟨g, 0, none⟩) i n) (.int .i64 ((n : Int) + 1 - (i : Int))) rfl rfl _ _ (HRZ.out 26) ?_)
 go_region_law_o (refine step_copy_runI rfl _ _ 26 26 rfl (.slice (some ⟨bN, i + 1, none⟩) (n - i) (G - (i + 1))) (.slice (some ⟨g, i, none⟩) (n - i) (n - i)) (by simp [Act.eval, Act.put]) (by simp [Act.eval, Act.put]) (HCB.out (((w.alloc (.cells C0.toArray 9)).drew.setRow bN C1.toArray).drew) rfl 3 (G - (i + 1)) (n - i)) ?_)
 go_wp2_with fail
 go_ret
 exact ⟨_, _, rfl, HF.out _ rfl rfl rfl rfl⟩
theorem insStrAt (w0 : World) (rs : List Res) (w : World) (al : Option Addr) (n cl nb i : Nat) (xs : List Value) (u : Value) (hM : Mem w0 w (rowR 9 1 (.slice al n cl) n (xs) :: rowR 9 1 (.slice (some ⟨nb, 0, none⟩) 1 1) 1 ([u]) :: rs)) (hi : i ≤ n) (hn : n ≤ 4194304) (hx1 : ∀ v ∈ xs, v.oneCell' = true) (hu : u.oneCell' = true) :
  Calls Tryz.prog 97 #[.slice al n cl, .int .i64 i, .slice (some ⟨nb, 0, none⟩) 1 1] w fun e w' => ∃ a c, e = .returned (.slice a (n + 1 : Nat) c) ∧ Mem w0 w' (rowR 9 1 (.slice a (n + 1) c) (n + 1) (xs.take (i) ++ [u] ++ xs.drop (i)) :: rowR 9 1 (.slice (some ⟨nb, 0, none⟩) 1 1) 1 ([u]) :: rs) := by
 have hxl := (hM.row 0 rfl).1
 by_cases hin : i = n
 ·subst hin
  have e1 : xs.take (i) = xs := List.take_of_length_le (by omega)
  have e2 : xs.drop (i) = [] := List.drop_of_length_le (by omega)
  rw [e1, e2, List.append_nil]
  exact insStr w0 rs w al i cl nb xs u hM hn hu
 ·obtain ⟨_, h0 | ⟨g, cl', _, he, _⟩⟩ := hM.row 0 rfl
  ·have := h0.2; omega
  cases he
  by_cases hroom : n + 1 ≤ cl
  ·refine (insStr_shift w0 rs w g n cl nb i xs [u] hM (by omega) hn hroom hx1 (fun v hv => by rw [List.mem_singleton] at hv; rw [hv]; exact hu)).mono ?_
   rintro e w' ⟨rfl, m⟩
   exact ⟨_, _, rfl, m⟩
  ·exact insStr_grow w0 rs w g n cl nb i xs [u] hM (by omega) hn hroom hx1 (fun v hv => by rw [List.mem_singleton] at hv; rw [hv]; exact hu)
end Go.Proofs.YtbafalfmgibnfaaGreatDoor.typ
namespace Go.Tre
open Go.RowKit
abbrev RisL (l : List (List UInt8)) : Prop := l.Pairwise fun a b => lessS a b = true
theorem lessS_trans {a b c : List UInt8} (h1 : lessS a b = true) (h2 : lessS b c = true) : lessS a c = true := by
 rw [← less_is] at *
 exact less_trans h1 h2
theorem posL_le (l : List (List UInt8)) (s : List UInt8) : posL l s ≤ l.length := (List.takeWhile_sublist _).length_le
theorem posL_lt {l : List (List UInt8)} {s : List UInt8} {t : Nat} (h : t < posL l s) (ht : t < l.length) : lessS l[t] s = true := by
 induction l generalizing t with
 | nil => simp at ht
 | cons x r ih =>
  unfold posL at h
  rw [List.takeWhile_cons] at h
  split at h
  ·rename_i hx
   cases t with
   | zero => exact hx
   | succ t => exact ih (t := t) (by rw [List.length_cons] at h; unfold posL; omega) (by simpa using ht)
  ·simp at h
theorem posL_at {l : List (List UInt8)} {s : List UInt8} (h : posL l s < l.length) : lessS l[posL l s] s = false := by
 induction l with
 | nil => simp at h
 | cons x r ih =>
  by_cases hx : lessS x s = true
  ·have e : posL (x :: r) s = posL r s + 1 := by unfold posL; rw [List.takeWhile_cons, if_pos hx, List.length_cons]
   have h2 : posL r s < r.length := by rw [e, List.length_cons] at h; omega
   have := ih h2
   simp only [e, List.getElem_cons_succ]
   exact this
  ·have e : posL (x :: r) s = 0 := by unfold posL; rw [List.takeWhile_cons, if_neg hx]; rfl
   simp only [e, List.getElem_cons_zero]
   simpa using hx
theorem posL_ge {l : List (List UInt8)} {s : List UInt8} (hr : RisL l) {t : Nat} (h : posL l s ≤ t) (ht : t < l.length) : lessS l[t] s = false := by
 have h0 := posL_at (l := l) (s := s) (by omega)
 by_cases e : posL l s = t
 ·subst e; exact h0
 ·have h1 := (List.pairwise_iff_getElem.1 hr) (posL l s) t (by omega) ht (by omega)
  cases hb : lessS l[t] s with
  | false => rfl
  | true => rw [lessS_trans h1 hb] at h0; cases h0
theorem bsGo_at (less : Nat → Bool) (n p : Nat) (h1 : ∀ t, t < p → less t = true) (h2 : ∀ t, p ≤ t → t < n → less t = false) : ∀ (f lo hi : Nat), lo ≤ p → p ≤ hi → hi ≤ n → hi - lo ≤ f → Lib.bsGo less f lo hi = p := by
 intro f
 induction f with
 | zero => intro lo hi a b _ d; simp [Lib.bsGo]; omega
 | succ f ih =>
  intro lo hi a b c d
  unfold Lib.bsGo
  by_cases hl : lo < hi
  ·rw [if_pos hl]
   by_cases hm : (lo + hi) / 2 < p
   ·rw [if_pos (h1 _ hm)]
    exact ih _ _ (by omega) b c (by omega)
   ·rw [if_neg (by rw [h2 _ (by omega) (by omega)]; simp)]
    exact ih _ _ a (by omega) (by omega) (by omega)
  ·rw [if_neg hl]; omega
theorem posL_is {l : List (List UInt8)} {s : List UInt8} (hr : RisL l) : l.contains s = decide (posL l s < l.length ∧ l.getD (posL l s) [] = s) := by
 rw [Bool.eq_iff_iff, List.contains_iff_mem, decide_eq_true_iff]
 refine ⟨fun h => ?_, fun ⟨h1, h2⟩ => ?_⟩
 ·obtain ⟨i, hi, rfl⟩ := List.getElem_of_mem h
  have e : posL l l[i] = i := by
   rcases Nat.lt_trichotomy (posL l l[i]) i with hlt | he | hgt
   ·have h0 := posL_at (l := l) (s := l[i]) (by omega)
    rw [(List.pairwise_iff_getElem.1 hr) _ i (by omega) hi hlt] at h0
    cases h0
   ·exact he
   ·have := posL_lt hgt hi
    rw [lessS_irrefl] at this
    cases this
  rw [e, List.getD_eq_getElem?_getD, List.getElem?_eq_getElem hi]
  exact ⟨hi, rfl⟩
 ·rw [List.getD_eq_getElem?_getD, List.getElem?_eq_getElem h1] at h2
  simp only [Option.getD_some] at h2
  rw [← h2]
  exact List.getElem_mem h1
theorem insAt_len {α : Type} (l : List α) {p : Nat} (x : α) (h : p ≤ l.length) : (insAt l p x).length = l.length + 1 := by
 unfold insAt
 rw [List.length_append, List.length_cons, List.length_take, List.length_drop]
 omega
theorem insAt_map {α β : Type} (f : α → β) (l : List α) (p : Nat) (x : α) : (insAt l p x).map f = insAt (l.map f) p (f x) := by
 unfold insAt
 rw [List.map_append, List.map_cons, List.map_take, List.map_drop]
theorem insAt_mem {α : Type} {l : List α} {p : Nat} {x y : α} : y ∈ insAt l p x ↔ y = x ∨ y ∈ l := by
 unfold insAt
 rw [List.mem_append, List.mem_cons]
 constructor
 ·rintro (h | h | h)
  ·exact .inr (List.mem_of_mem_take h)
  ·exact .inl h
  ·exact .inr (List.mem_of_mem_drop h)
 ·rintro (h | h)
  ·exact .inr (.inl h)
  ·rw [← List.take_append_drop p l] at h
   rcases List.mem_append.1 h with h | h
   ·exact .inl h
   ·exact .inr (.inr h)
theorem insAt_perm {α : Type} (l : List α) (p : Nat) (x : α) : (l ++ [x]).Perm (insAt l p x) := by
 unfold insAt
 refine (List.perm_append_singleton x l).trans ?_
 conv => lhs; rw [← List.take_append_drop p l]
 exact (List.perm_middle).symm
theorem less_or : ∀ {a b : List UInt8}, lessS a b = false → a ≠ b → lessS b a = true
 | [], [], _, h => absurd rfl h
 | [], _ :: _, h, _ => by simp [lessS] at h
 | _ :: _, [], _, _ => rfl
 | a :: x, b :: y, h, hn => by
  unfold lessS at h ⊢
  simp only [Bool.or_eq_false_iff, decide_eq_false_iff_not, Bool.and_eq_false_iff] at h
  by_cases e : a = b
  ·subst e
   have h2 : lessS x y = false := by
    rcases h.2 with h2 | h2
    ·exact absurd rfl h2
    ·exact h2
   have := less_or h2 (fun e => hn (by rw [e]))
   simp [this]
  ·have hne : a.toNat ≠ b.toNat := fun h' => e (UInt8.toNat_inj.1 h')
   have : b.toNat < a.toNat := by have := h.1; omega
   simp [this]
theorem insAt_ris {l : List (List UInt8)} {s : List UInt8} (hr : RisL l) (hs : l.contains s = false) : RisL (insAt l (posL l s) s) := by
 unfold insAt
 have hd := hr.sublist (List.drop_sublist (posL l s) l)
 have ht := hr.sublist (List.take_sublist (posL l s) l)
 have hlow : ∀ a ∈ l.take (posL l s), lessS a s = true := fun a ha => by
  obtain ⟨i, hi, rfl⟩ := List.getElem_of_mem ha
  rw [List.length_take] at hi
  rw [List.getElem_take]
  exact posL_lt (by omega) (by omega)
 have hhigh : ∀ b ∈ l.drop (posL l s), lessS s b = true := fun b hb => by
  obtain ⟨i, hi, rfl⟩ := List.getElem_of_mem hb
  rw [List.length_drop] at hi
  rw [List.getElem_drop]
  have h1 := posL_ge (s := s) hr (t := posL l s + i) (by omega) (by omega)
  exact less_or h1 (fun e => by
   have hm : s ∈ l := by rw [← e]; exact List.getElem_mem _
   rw [List.contains_iff_mem.2 hm] at hs
   cases hs)
 refine List.pairwise_append.2 ⟨ht, List.pairwise_cons.2 ⟨hhigh, hd⟩, fun a ha b hb => ?_⟩
 rcases List.mem_cons.1 hb with rfl | hb
 ·exact hlow a ha
 ·exact lessS_trans (hlow a ha) (hhigh b hb)
/-! parts in the memory -/
variable {w0 w : World} {rs : List Res}
theorem Mem.apartPerm {kids kids' : List Kid} (h : Mem w0 w (apartR kids :: rs)) (p : kids.Perm kids') : Mem w0 w (apartR kids' :: rs) := by
 refine h.as_ 0 rfl (apartR kids') (fun hp => ⟨fun k hk => hp.1 k (p.mem_iff.2 hk), ?_⟩) (fun b hb => ?_)
 ·exact (p.pairwise_iff (fun {x y} hxy b hb hb' => hxy b hb' hb)).1 hp.2
 ·obtain ⟨k, hk, hb⟩ := hb
  exact ⟨k, p.mem_iff.2 hk, hb⟩
theorem Mem.apartAt {k : Kid} {kids : List Kid} (h : Mem w0 w (kidR k :: apartR kids :: rs)) (p : Nat) : Mem w0 w (apartR (insAt kids p k) :: rs) := h.apartInto.apartPerm (insAt_perm kids p k)
theorem kidCells_app (a b : List Kid) : kidCells (a ++ b) = kidCells a ++ kidCells b := by simp [kidCells]
theorem kidCells_at {kids : List Kid} (h5 : ∀ k ∈ kids, k.V.size = 5) (p : Nat) (hp : p ≤ kids.length) (k : Kid) : kidCells (insAt kids p k) = (kidCells kids).take (p * 5) ++ k.V.toList ++ (kidCells kids).drop (p * 5) := by
 have hl : (kidCells (kids.take p)).length = p * 5 := by
  rw [five_len (fun x hx => h5 x (List.mem_of_mem_take hx)), List.length_take, Nat.min_eq_left hp]
 have e : kidCells kids = kidCells (kids.take p) ++ kidCells (kids.drop p) := by rw [← kidCells_app, List.take_append_drop]
 rw [e, List.take_left' hl, List.drop_left' hl]
 unfold insAt
 rw [kidCells_app, List.append_assoc]
 rfl
theorem kids_five {kids : List Kid} (h : (apartR kids).P w) : ∀ k ∈ kids, k.V.size = 5 := fun k hk => (h.1 k hk).1.five
theorem kids_one {kids : List Kid} (h : (apartR kids).P w) : ∀ v ∈ kidCells kids, v.oneCell' = true := fun v hv => by
 unfold kidCells at hv
 obtain ⟨k, hk, hv⟩ := List.mem_flatMap.1 hv
 obtain ⟨aa, ca, al, cl, e, _⟩ := (h.1 k hk).1.agg
 rw [Value.agg.inj e] at hv
 simp only [List.mem_cons, List.not_mem_nil, or_false] at hv
 rcases hv with rfl | rfl | rfl | rfl | rfl <;> rfl
end Go.Tre
namespace Go.Proofs.YtbafalfmgibnfaaGreatDoor.typ
open Go.RowKit Go.Maps Go.Shelf Go.Tre
theorem binAny (w0 : World) (rs : List Res) (w : World) (al : Option Addr) (cl : Nat) (labels : List (List UInt8)) (s : List UInt8) (hM : Mem w0 w (rowR 9 1 (.slice al labels.length cl) labels.length (labels.map fun x => .string ⟨x.toArray⟩) :: rs)) (hn : labels.length ≤ 4194304) (hr : RisL labels) :
  Calls Tryz.prog 96 #[.slice al labels.length cl, .string ⟨s.toArray⟩] w fun e w' => e = .returned (.tuple #[.int .i64 (posL labels s : Int), .bool (labels.contains s)]) ∧ Below w.heap.size w w' := by
 rcases (hM.row 0 rfl).2 with ⟨e1, e2⟩ | ⟨g, cap, cur, e1, _, hg, _⟩
 ·have : labels = [] := List.eq_nil_of_length_eq_zero e2
  subst this
  cases e1
  exact binEmpty 0 _ w
 ·obtain ⟨rfl, rfl⟩ : al = some ⟨g, 0, none⟩ ∧ cl = cap := by injection e1; exact ⟨by assumption, by assumption⟩
  clear e1
  have lo : ∀ t, t < posL labels s → Op.bytesLess ((⟨(labels.getD t []).toArray⟩ : ByteArray).toList) ((⟨s.toArray⟩ : ByteArray).toList) = true := fun t ht => by
   have ht2 : t < labels.length := Nat.lt_of_lt_of_le ht (posL_le labels s)
   rw [ba_list, ba_list, less_is, List.getD_eq_getElem?_getD, List.getElem?_eq_getElem ht2]
   exact posL_lt ht ht2
  have hi : ∀ t, posL labels s ≤ t → t < labels.length → Op.bytesLess ((⟨(labels.getD t []).toArray⟩ : ByteArray).toList) ((⟨s.toArray⟩ : ByteArray).toList) = false := fun t h1 h2 => by
   rw [ba_list, ba_list, less_is, List.getD_eq_getElem?_getD, List.getElem?_eq_getElem h2]
   exact posL_ge hr h1 h2
  have hgo := bsGo_at _ labels.length (posL labels s) lo hi labels.length 0 labels.length (Nat.zero_le _) (posL_le labels s) (Nat.le_refl _) (by omega)
  refine (Tryz.slices_BinarySearch_string g 0 labels.length cl (fun t => ⟨(labels.getD t []).toArray⟩) ⟨s.toArray⟩ w (by omega) (fun j hj => ?_)).mono ?_
  ·rw [Nat.zero_add]
   refine hM.cellAt 0 rfl j ?_
   rw [List.getElem?_map, List.getElem?_eq_getElem hj, List.getD_eq_getElem?_getD, List.getElem?_eq_getElem hj]
   rfl
  ·rintro e w' ⟨rfl, n, rfl⟩
   refine ⟨?_, Go.below_drewN (Below.refl _ _) n⟩
   rw [hgo, posL_is hr]
   have hb : ∀ a b : List UInt8, ((⟨a.toArray⟩ : ByteArray) = ⟨b.toArray⟩) = (a = b) := fun a b => by simp
   simp only [hb]
end Go.Proofs.YtbafalfmgibnfaaGreatDoor.typ
