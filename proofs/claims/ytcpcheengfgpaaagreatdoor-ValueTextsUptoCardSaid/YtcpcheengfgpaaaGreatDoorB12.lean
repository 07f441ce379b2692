/- (*lexer).next: a type's variable. -/
import Derived.Test.YtcpcheengfgpaaaGreatDoorB07
import Derived.Test.YtcpcheengfgpaaaGreatDoorB01
import Derived.Deep.RegionHeld3
set_option linter.unusedVariables false
namespace Go.Proofs.YtcpcheengfgpaaaGreatDoor.lex
open Go.RowKit Go.Tre
theorem nextS_tick {x : ByteArray} (h0 : 0 < x.size) (hw : wordLen x = 0) (h : x[0] = 39) {m : Nat} (hm : m = wordLen (x.extract 1 x.size)) :
    nextS x.data.toList = if m = 0 ∨ m > 100 then none else some (⟨5, 0, 0, (x.extract 1 (m + 1)).data.toList⟩, m + 1) := by
  have hw' : ¬ wordFrom true x.data.toList > 0 := by have : wordFrom true x.data.toList = 0 := hw; omega
  have hd := drop_at x 0 h0
  rw [List.drop_zero] at hd
  have hz : (x.extract 1 x.size).data.toList = x.data.toList.drop (0 + 1) := extract_list x 1
  have hm2 : m = wordFrom true (x.data.toList.drop (0 + 1)) := by rw [hm, ← hz]; rfl
  have hle := wordLen_le (x.extract 1 x.size)
  rw [ByteArray.size_extract, ← hm] at hle
  rw [extract_take x 1 (m + 1) (by omega), Nat.add_sub_cancel]
  unfold nextS
  rw [if_neg hw', hd, h]
  simp only [if_true]
  rw [← hm2]
  rfl
set_option maxRecDepth 100000 in
set_option maxHeartbeats 8000000 in
theorem next_tick_none (w0 : World) (rs : List Res) (b : Nat) (s x : ByteArray) (k : Nat) (w : World) (h : Mem w0 w (lexR b s k :: rs)) (hk : k ≤ s.size) (hs : s.size ≤ 4194304) (hx : x.data.toList = s.data.toList.drop k) (hm : MaxAt w0) (h0 : 0 < x.size) (hw : wordLen x = 0) (h39 : x[0] = 39) (hc : wordLen (x.extract 1 x.size) = 0) :
    Calls Tryz.prog 32 #[.pointer (some ⟨b, 0, none⟩)] w (NextPost w0 rs b s k (nextS x.data.toList)) := by
  have HM0 := Tre.hid (((h.allocR (tokV 0 0 0 ⟨#[]⟩) 34).allocR #[.int .i64 0] 3).allocR #[.nilIface] 24)
  have HX := Tre.hid hx
  have hxs : x.size ≤ s.size := by
    have := congrArg List.length hx
    simp at this
    omega
  clear h hx
  have HMX := Tre.hid hm
  have HW0 := Tre.hid hw
  have HD0 := Tre.hid (drop_at x 0 h0)
  have hc255 := x[0].toNat_lt
  have e39 : ((x[0].toNat : Int) == 39) = true := by rw [h39]; rfl
  obtain ⟨m, hm'⟩ : ∃ m : Nat, m = wordLen (x.extract 1 x.size) := ⟨_, rfl⟩
  have HZ : Hid (wordLen (x.extract 1 x.size) = m) := hm'.symm
  have HZS : Hid ((x.extract 1 x.size).size + 1 = x.size) := by
    show _ = _
    rw [ByteArray.size_extract]; omega
  have hmx : m + 1 ≤ x.size := by have h1 := wordLen_le (x.extract 1 x.size); have h2 := HZS.out; omega
  have HDN := Tre.hid (nextS_tick h0 HW0.out h39 hm')
  rw [← hm'] at hc
  have HDM : Hid (nextS x.data.toList = none) := by show _ = _; rw [HDN.out, if_pos (by omega)]
  have e0 : ((m : Int) == 0) = true := by rw [beq_iff_eq]; omega
  clear HDN hm' hc
  clear hm hw
  refine calls_marks Tryz.func32 rfl ?_
  simp only [Tryz.ntmps32, List.size_toArray, List.length_cons, List.length_nil, Nat.reduceAdd, Nat.reduceSub, Array.replicate_succ, Array.replicate_zero, List.push_toArray, List.append_toArray, List.nil_append, List.cons_append]
  go_wp2_with fail
  refine (rest_is b s k x _ (lexAt HM0.out 3 rfl) hk (by omega) HX.out).mono ?_
  rintro e w1 ⟨rfl, mq⟩
  have M1 := HM0.out.quiet mq
  simp only [World.size_alloc] at M1
  have HM1 := Tre.hid M1
  obtain ⟨l0, l1⟩ := M1.two 3 rfl
  have hbl := World.block_lt_of_cell? w1 _ l0
  have htl := (Array.getElem?_eq_some_iff.1 (M1.heap 2 rfl)).1
  have t1 : w1.cell? ⟨w.heap.size, 1, none⟩ = some (.int .i64 0) := M1.cell 2 rfl 1 rfl
  have f1 := M1.free 2 rfl 1
  clear mq M1 HM0
  simp only at hbl
  go_wp2_with fail
  refine (word x _ (by omega)).mono ?_
  rintro e w2 ⟨rfl, rfl⟩
  rw [HW0.out, show ((0 : Nat) : Int) = 0 from rfl]
  have M2 := (HM1.out.setCell 2 rfl 1 (.int .i64 (k : Int))).allocR #[.string x] 9
  rw [World.size_setCell] at M2
  generalize hg : ((w1.setCell ⟨w.heap.size, 1, none⟩ (.int .i64 (k : Int))).alloc (.cells #[.string x] 9)) = w2 at M2 ⊢
  have M2' : Mem w0 w2 (nextL w1.heap.size w.heap.size 0 k 0 ⟨#[]⟩ 0 .nilIface x b s k rs) := M2
  have HM2 := Tre.hid M2'
  have n1 := M2'.cell 2 rfl 0 rfl
  have n2 := M2'.free 2 rfl 0
  have s1 := M2'.cell 0 rfl 0 rfl
  have hne : w1.heap.size ≠ w.heap.size + 1 := by have := HM1.out.heap 1 rfl; intro e; rw [← e] at this; simp at this
  clear hg M2 M2' t1 f1 l0 l1 HM1
  go_wp2_with fail
  have M3 := HM2.out.setCell 2 rfl 0 (.int .i64 0)
  generalize hg : w2.setCell ⟨w.heap.size + 1, 0, none⟩ (.int .i64 0) = w3 at M3 ⊢
  have HM3 : Hid (Mem w0 w3 (nextL w1.heap.size w.heap.size 0 k 0 ⟨#[]⟩ 0 .nilIface x b s k rs)) := M3
  clear hg M3 HM2 n1 n2 s1
  refine (word (x.extract 1 x.size) _ (by have := HZS.out; omega)).mono ?_
  rintro e w' ⟨rfl, rfl⟩
  rw [HZ.out]
  have n1 := HM3.out.cell 2 rfl 0 rfl
  have n2 := HM3.out.free 2 rfl 0
  have s1 := HM3.out.cell 0 rfl 0 rfl
  go_wp2_with fail
  have M4 := HM3.out.setCell 2 rfl 0 (.int .i64 (m : Int))
  generalize hg : w3.setCell ⟨w.heap.size + 1, 0, none⟩ (.int .i64 (m : Int)) = w4 at M4 ⊢
  have HM4 : Hid (Mem w0 w4 (nextL w1.heap.size w.heap.size 0 k 0 ⟨#[]⟩ (m : Int) .nilIface x b s k rs)) := M4
  clear hg M4 HM3 n1 n2 s1
  refine wp_region_noPanic ?_
  refine wp_region_keep (S := (fun w' => (w'.cell? ⟨w.heap.size, 0, none⟩ = some (.int .i64 0) ∧ w'.cell? ⟨w.heap.size, 1, none⟩ = some (.int .i64 k) ∧ w'.cell? ⟨w.heap.size, 2, none⟩ = some (.int .i64 0) ∧ w'.cell? ⟨w.heap.size, 3, none⟩ = some (.string ⟨#[]⟩)) ∧ w'.cell? ⟨w.heap.size + 1, 0, none⟩ = some (.int .i64 (m : Int)))) [3, 4, 5] (by kernel_rfl) ?_ (fun hH0 => ?_)
  · exact ⟨⟨HM4.out.cell 3 rfl 0 rfl, HM4.out.cell 3 rfl 1 rfl, HM4.out.cell 3 rfl 2 rfl, HM4.out.cell 3 rfl 3 rfl⟩, HM4.out.cell 2 rfl 0 rfl⟩
  have H0 := Tre.hid HM4.out.drew
  generalize hq : w4.drew = wq0 at H0 hH0 ⊢
  clear hq
  refine lPure (i := 1) (some 55) (v := ?_) (by rfl) (by kernel_rfl) (by kernel_rfl) (by kernel_rfl) (by kernel_rfl) (fun _ _ _ h => h) (by rfl) ?_ (keep_of hH0) ?_
  rotate_left
  · intro w; simp only [List.getElem?_toArray, List.getElem?_cons_succ, List.getElem?_cons_zero, Option.map_some, Option.some.injEq]; (first | (go_simp; done) | (go_simp; with_reducible rfl))
  try simp only [Act.put, List.setIfInBounds_toArray, List.set_cons_zero, List.set_cons_succ]
  refine lTake (i := 0) (some 54) (v := ?_) (by rfl) (by kernel_rfl) (by kernel_rfl) (by kernel_rfl) (by kernel_rfl) (by kernel_rfl) (fun _ _ _ h => h) (by rfl) ?_ hH0 ?_
  rotate_left
  · intro w hSw; (try dsimp only at hSw); simp only [List.getElem?_toArray, List.getElem?_cons_zero, Option.map_some, Option.some.injEq]; (first | (go_simp; done) | (go_simp; with_reducible rfl))
  try simp only [Act.put, List.setIfInBounds_toArray, List.set_cons_zero, List.set_cons_succ]
  refine lOne 2 (by kernel_rfl) (LStep.op (fun K hK => ?_))
  go_simp
  refine (fail b s k wq0 (lexAt H0.out 4 rfl)).mono ?_
  rintro e w' ⟨rfl, rfl⟩
  have H9 := errNew (k := k) H0.out
  generalize hev : wq0.heap.size = ev at H9 ⊢
  generalize hw : wq0.alloc (.cells #[.int .i64 (k : Int), .int .i64 5] 48) = wq1 at H9 ⊢
  have H1 := Tre.hid H9
  clear H9 hw hev
  (try dsimp only)
  refine hK.out _ _ ?_ (fun hH1 => ?_)
  · exact ⟨⟨H1.out.cell 4 rfl 0 rfl, H1.out.cell 4 rfl 1 rfl, H1.out.cell 4 rfl 2 rfl, H1.out.cell 4 rfl 3 rfl⟩, H1.out.cell 3 rfl 0 rfl⟩
  clear hK K hH0
  try simp only [Act.put, List.setIfInBounds_toArray, List.set_cons_zero, List.set_cons_succ]
  refine lOne 3 (by kernel_rfl) (LFall.op (by kernel_rfl) (fun K hK => ?_))
  have g0 := H1.out.cell 4 rfl 0 rfl
  have g1 := H1.out.cell 4 rfl 1 rfl
  have g2 := H1.out.cell 4 rfl 2 rfl
  have g3 := H1.out.cell 4 rfl 3 rfl
  have f0 := H1.out.free 4 rfl 0
  have f1 := H1.out.free 4 rfl 1
  have f2 := H1.out.free 4 rfl 2
  have f3 := H1.out.free 4 rfl 3
  have H9 := ((((H1.out.setCell 4 rfl 0 (.int .i64 0)).setCell 4 rfl 1 (.int .i64 k)).setCell 4 rfl 2 (.int .i64 0)).setCell 4 rfl 3 (.string ⟨#[]⟩))
  go_simp
  generalize hw : ((((wq1.setCell ⟨w.heap.size, 0, none⟩ (.int .i64 0)).setCell ⟨w.heap.size, 1, none⟩ (.int .i64 k)).setCell ⟨w.heap.size, 2, none⟩ (.int .i64 0)).setCell ⟨w.heap.size, 3, none⟩ (.string ⟨#[]⟩)) = wq2 at H9 ⊢
  have H2 := Tre.hid H9
  clear hw H9 g0 g1 g2 g3 f0 f1 f2 f3
  refine hK.out _ _ ?_
  clear hK K hH1
  try simp only [Act.put, List.setIfInBounds_toArray, List.set_cons_zero, List.set_cons_succ]
  refine lOne 4 (by kernel_rfl) (LFall.op (by kernel_rfl) (fun K hK => ?_))
  have g0 := H2.out.cell 3 rfl 0 rfl
  have f0 := H2.out.free 3 rfl 0
  have H9 := H2.out.setCell 3 rfl 0 (.int .i64 0)
  go_simp
  generalize hw : wq2.setCell ⟨w.heap.size + 1, 0, none⟩ (.int .i64 0) = wq3 at H9 ⊢
  have H3 := Tre.hid H9
  clear hw H9 g0 f0
  refine hK.out _ _ ?_
  clear hK K
  try simp only [Act.put, List.setIfInBounds_toArray, List.set_cons_zero, List.set_cons_succ]
  refine lOne 5 (by kernel_rfl) (LFall.op (by kernel_rfl) (fun K hK => ?_))
  have g0 := H3.out.cell 2 rfl 0 rfl
  have f0 := H3.out.free 2 rfl 0
  have H9 := H3.out.setCell 2 rfl 0 (.iface 44 (.pointer (some ⟨ev, 0, none⟩)))
  go_simp
  generalize hw : wq3.setCell ⟨w.heap.size + 1 + 1, 0, none⟩ (.iface 44 (.pointer (some ⟨ev, 0, none⟩))) = wq4 at H9 ⊢
  have H4 := Tre.hid H9
  clear hw H9 g0 f0
  refine hK.out _ _ ?_
  clear hK K
  try simp only [Act.put, List.setIfInBounds_toArray, List.set_cons_zero, List.set_cons_succ]
  refine lDone (by kernel_rfl) ?_
  refine NoPanic.normal ?_
  go_wp2_with fail
  have H9 : Mem w0 wq4 (errR [ev] (.iface 44 (.pointer (some ⟨ev, 0, none⟩))) k 5 :: nextL w1.heap.size w.heap.size 0 k 0 ⟨#[]⟩ 0 (.iface 44 (.pointer (some ⟨ev, 0, none⟩))) x b s k rs) := H4.out
  refine bodyPostM_ret (next_results _ w.heap.size 0 k 0 0 ⟨#[]⟩ (.iface 44 (.pointer (some ⟨ev, 0, none⟩))) _ rfl rfl rfl (H9.heap 4 rfl) (H9.heap 3 rfl) (H9.heap 2 rfl)) rfl ?_
  exact .inr ⟨HDM.out, _, _, _, _, _, _, [ev], rfl, ((((H9.del 1).del 1).del 1).del 1)⟩
set_option maxRecDepth 100000 in
set_option maxHeartbeats 8000000 in
theorem next_tick_long (w0 : World) (rs : List Res) (b : Nat) (s x : ByteArray) (k : Nat) (w : World) (h : Mem w0 w (lexR b s k :: rs)) (hk : k ≤ s.size) (hs : s.size ≤ 4194304) (hx : x.data.toList = s.data.toList.drop k) (hm : MaxAt w0) (h0 : 0 < x.size) (hw : wordLen x = 0) (h39 : x[0] = 39) (hc : 100 < wordLen (x.extract 1 x.size)) :
    Calls Tryz.prog 32 #[.pointer (some ⟨b, 0, none⟩)] w (NextPost w0 rs b s k (nextS x.data.toList)) := by
  have HM0 := Tre.hid (((h.allocR (tokV 0 0 0 ⟨#[]⟩) 34).allocR #[.int .i64 0] 3).allocR #[.nilIface] 24)
  have HX := Tre.hid hx
  have hxs : x.size ≤ s.size := by
    have := congrArg List.length hx
    simp at this
    omega
  clear h hx
  have HMX := Tre.hid hm
  have HW0 := Tre.hid hw
  have HD0 := Tre.hid (drop_at x 0 h0)
  have hc255 := x[0].toNat_lt
  have e39 : ((x[0].toNat : Int) == 39) = true := by rw [h39]; rfl
  obtain ⟨m, hm'⟩ : ∃ m : Nat, m = wordLen (x.extract 1 x.size) := ⟨_, rfl⟩
  have HZ : Hid (wordLen (x.extract 1 x.size) = m) := hm'.symm
  have HZS : Hid ((x.extract 1 x.size).size + 1 = x.size) := by
    show _ = _
    rw [ByteArray.size_extract]; omega
  have hmx : m + 1 ≤ x.size := by have h1 := wordLen_le (x.extract 1 x.size); have h2 := HZS.out; omega
  have HDN := Tre.hid (nextS_tick h0 HW0.out h39 hm')
  rw [← hm'] at hc
  have HDM : Hid (nextS x.data.toList = none) := by show _ = _; rw [HDN.out, if_pos (by omega)]
  have e0 : ((m : Int) == 0) = false := by rw [beq_eq_false_iff_ne]; omega
  clear HDN hm'
  clear hm hw
  refine calls_marks Tryz.func32 rfl ?_
  simp only [Tryz.ntmps32, List.size_toArray, List.length_cons, List.length_nil, Nat.reduceAdd, Nat.reduceSub, Array.replicate_succ, Array.replicate_zero, List.push_toArray, List.append_toArray, List.nil_append, List.cons_append]
  go_wp2_with fail
  refine (rest_is b s k x _ (lexAt HM0.out 3 rfl) hk (by omega) HX.out).mono ?_
  rintro e w1 ⟨rfl, mq⟩
  have M1 := HM0.out.quiet mq
  simp only [World.size_alloc] at M1
  have HM1 := Tre.hid M1
  obtain ⟨l0, l1⟩ := M1.two 3 rfl
  have hbl := World.block_lt_of_cell? w1 _ l0
  have htl := (Array.getElem?_eq_some_iff.1 (M1.heap 2 rfl)).1
  have t1 : w1.cell? ⟨w.heap.size, 1, none⟩ = some (.int .i64 0) := M1.cell 2 rfl 1 rfl
  have f1 := M1.free 2 rfl 1
  clear mq M1 HM0
  simp only at hbl
  go_wp2_with fail
  refine (word x _ (by omega)).mono ?_
  rintro e w2 ⟨rfl, rfl⟩
  rw [HW0.out, show ((0 : Nat) : Int) = 0 from rfl]
  have M2 := (HM1.out.setCell 2 rfl 1 (.int .i64 (k : Int))).allocR #[.string x] 9
  rw [World.size_setCell] at M2
  generalize hg : ((w1.setCell ⟨w.heap.size, 1, none⟩ (.int .i64 (k : Int))).alloc (.cells #[.string x] 9)) = w2 at M2 ⊢
  have M2' : Mem w0 w2 (nextL w1.heap.size w.heap.size 0 k 0 ⟨#[]⟩ 0 .nilIface x b s k rs) := M2
  have HM2 := Tre.hid M2'
  have n1 := M2'.cell 2 rfl 0 rfl
  have n2 := M2'.free 2 rfl 0
  have s1 := M2'.cell 0 rfl 0 rfl
  have hne : w1.heap.size ≠ w.heap.size + 1 := by have := HM1.out.heap 1 rfl; intro e; rw [← e] at this; simp at this
  clear hg M2 M2' t1 f1 l0 l1 HM1
  go_wp2_with fail
  have M3 := HM2.out.setCell 2 rfl 0 (.int .i64 0)
  generalize hg : w2.setCell ⟨w.heap.size + 1, 0, none⟩ (.int .i64 0) = w3 at M3 ⊢
  have HM3 : Hid (Mem w0 w3 (nextL w1.heap.size w.heap.size 0 k 0 ⟨#[]⟩ 0 .nilIface x b s k rs)) := M3
  clear hg M3 HM2 n1 n2 s1
  refine (word (x.extract 1 x.size) _ (by have := HZS.out; omega)).mono ?_
  rintro e w' ⟨rfl, rfl⟩
  rw [HZ.out]
  have n1 := HM3.out.cell 2 rfl 0 rfl
  have n2 := HM3.out.free 2 rfl 0
  have s1 := HM3.out.cell 0 rfl 0 rfl
  go_wp2_with fail
  have M4 := HM3.out.setCell 2 rfl 0 (.int .i64 (m : Int))
  generalize hg : w3.setCell ⟨w.heap.size + 1, 0, none⟩ (.int .i64 (m : Int)) = w4 at M4 ⊢
  have HM4 : Hid (Mem w0 w4 (nextL w1.heap.size w.heap.size 0 k 0 ⟨#[]⟩ (m : Int) .nilIface x b s k rs)) := M4
  clear hg M4 HM3 n1 n2 s1
  refine wp_region_noPanic ?_
  refine wp_region_keep (S := (fun w' => (w'.cell? ⟨w.heap.size, 0, none⟩ = some (.int .i64 0) ∧ w'.cell? ⟨w.heap.size, 1, none⟩ = some (.int .i64 k) ∧ w'.cell? ⟨w.heap.size, 2, none⟩ = some (.int .i64 0) ∧ w'.cell? ⟨w.heap.size, 3, none⟩ = some (.string ⟨#[]⟩)) ∧ w'.cell? ⟨w.heap.size + 1, 0, none⟩ = some (.int .i64 (m : Int)))) [3, 4, 5] (by kernel_rfl) ?_ (fun hH0 => ?_)
  · exact ⟨⟨HM4.out.cell 3 rfl 0 rfl, HM4.out.cell 3 rfl 1 rfl, HM4.out.cell 3 rfl 2 rfl, HM4.out.cell 3 rfl 3 rfl⟩, HM4.out.cell 2 rfl 0 rfl⟩
  have H0 := Tre.hid HM4.out.drew
  generalize hq : w4.drew = wq0 at H0 hH0 ⊢
  clear hq
  refine lPure (i := 1) (some 55) (v := ?_) (by rfl) (by kernel_rfl) (by kernel_rfl) (by kernel_rfl) (by kernel_rfl) (fun _ _ _ h => h) (by rfl) ?_ (keep_of hH0) ?_
  rotate_left
  · intro w; simp only [List.getElem?_toArray, List.getElem?_cons_succ, List.getElem?_cons_zero, Option.map_some, Option.some.injEq]; (first | (go_simp; done) | (go_simp; with_reducible rfl))
  try simp only [Act.put, List.setIfInBounds_toArray, List.set_cons_zero, List.set_cons_succ]
  refine lTake (i := 0) (some 54) (v := ?_) (by rfl) (by kernel_rfl) (by kernel_rfl) (by kernel_rfl) (by kernel_rfl) (by kernel_rfl) (fun _ _ _ h => h) (by rfl) ?_ hH0 ?_
  rotate_left
  · intro w hSw; (try dsimp only at hSw); simp only [List.getElem?_toArray, List.getElem?_cons_zero, Option.map_some, Option.some.injEq]; (first | (go_simp; done) | (go_simp; with_reducible rfl))
  try simp only [Act.put, List.setIfInBounds_toArray, List.set_cons_zero, List.set_cons_succ]
  refine lOne 2 (by kernel_rfl) (LStep.op (fun K hK => ?_))
  go_simp
  refine (fail b s k wq0 (lexAt H0.out 4 rfl)).mono ?_
  rintro e w' ⟨rfl, rfl⟩
  have H9 := errNew (k := k) H0.out
  generalize hev : wq0.heap.size = ev at H9 ⊢
  generalize hw : wq0.alloc (.cells #[.int .i64 (k : Int), .int .i64 5] 48) = wq1 at H9 ⊢
  have H1 := Tre.hid H9
  clear H9 hw hev
  (try dsimp only)
  refine hK.out _ _ ?_ (fun hH1 => ?_)
  · exact ⟨⟨H1.out.cell 4 rfl 0 rfl, H1.out.cell 4 rfl 1 rfl, H1.out.cell 4 rfl 2 rfl, H1.out.cell 4 rfl 3 rfl⟩, H1.out.cell 3 rfl 0 rfl⟩
  clear hK K hH0
  try simp only [Act.put, List.setIfInBounds_toArray, List.set_cons_zero, List.set_cons_succ]
  refine lOne 3 (by kernel_rfl) (LFall.op (by kernel_rfl) (fun K hK => ?_))
  have g0 := H1.out.cell 4 rfl 0 rfl
  have g1 := H1.out.cell 4 rfl 1 rfl
  have g2 := H1.out.cell 4 rfl 2 rfl
  have g3 := H1.out.cell 4 rfl 3 rfl
  have f0 := H1.out.free 4 rfl 0
  have f1 := H1.out.free 4 rfl 1
  have f2 := H1.out.free 4 rfl 2
  have f3 := H1.out.free 4 rfl 3
  have H9 := ((((H1.out.setCell 4 rfl 0 (.int .i64 0)).setCell 4 rfl 1 (.int .i64 k)).setCell 4 rfl 2 (.int .i64 0)).setCell 4 rfl 3 (.string ⟨#[]⟩))
  go_simp
  generalize hw : ((((wq1.setCell ⟨w.heap.size, 0, none⟩ (.int .i64 0)).setCell ⟨w.heap.size, 1, none⟩ (.int .i64 k)).setCell ⟨w.heap.size, 2, none⟩ (.int .i64 0)).setCell ⟨w.heap.size, 3, none⟩ (.string ⟨#[]⟩)) = wq2 at H9 ⊢
  have H2 := Tre.hid H9
  clear hw H9 g0 g1 g2 g3 f0 f1 f2 f3
  refine hK.out _ _ ?_
  clear hK K hH1
  try simp only [Act.put, List.setIfInBounds_toArray, List.set_cons_zero, List.set_cons_succ]
  refine lOne 4 (by kernel_rfl) (LFall.op (by kernel_rfl) (fun K hK => ?_))
  have g0 := H2.out.cell 3 rfl 0 rfl
  have f0 := H2.out.free 3 rfl 0
  have H9 := H2.out.setCell 3 rfl 0 (.int .i64 0)
  go_simp
  generalize hw : wq2.setCell ⟨w.heap.size + 1, 0, none⟩ (.int .i64 0) = wq3 at H9 ⊢
  have H3 := Tre.hid H9
  clear hw H9 g0 f0
  refine hK.out _ _ ?_
  clear hK K
  try simp only [Act.put, List.setIfInBounds_toArray, List.set_cons_zero, List.set_cons_succ]
  refine lOne 5 (by kernel_rfl) (LFall.op (by kernel_rfl) (fun K hK => ?_))
  have g0 := H3.out.cell 2 rfl 0 rfl
  have f0 := H3.out.free 2 rfl 0
  have H9 := H3.out.setCell 2 rfl 0 (.iface 44 (.pointer (some ⟨ev, 0, none⟩)))
  go_simp
  generalize hw : wq3.setCell ⟨w.heap.size + 1 + 1, 0, none⟩ (.iface 44 (.pointer (some ⟨ev, 0, none⟩))) = wq4 at H9 ⊢
  have H4 := Tre.hid H9
  clear hw H9 g0 f0
  refine hK.out _ _ ?_
  clear hK K
  try simp only [Act.put, List.setIfInBounds_toArray, List.set_cons_zero, List.set_cons_succ]
  refine lDone (by kernel_rfl) ?_
  refine NoPanic.normal ?_
  go_wp2_with fail
  have H9 : Mem w0 wq4 (errR [ev] (.iface 44 (.pointer (some ⟨ev, 0, none⟩))) k 5 :: nextL w1.heap.size w.heap.size 0 k 0 ⟨#[]⟩ 0 (.iface 44 (.pointer (some ⟨ev, 0, none⟩))) x b s k rs) := H4.out
  refine bodyPostM_ret (next_results _ w.heap.size 0 k 0 0 ⟨#[]⟩ (.iface 44 (.pointer (some ⟨ev, 0, none⟩))) _ rfl rfl rfl (H9.heap 4 rfl) (H9.heap 3 rfl) (H9.heap 2 rfl)) rfl ?_
  exact .inr ⟨HDM.out, _, _, _, _, _, _, [ev], rfl, ((((H9.del 1).del 1).del 1).del 1)⟩
set_option maxRecDepth 100000 in
set_option maxHeartbeats 8000000 in
theorem next_tick_some (w0 : World) (rs : List Res) (b : Nat) (s x : ByteArray) (k : Nat) (w : World) (h : Mem w0 w (lexR b s k :: rs)) (hk : k ≤ s.size) (hs : s.size ≤ 4194304) (hx : x.data.toList = s.data.toList.drop k) (hm : MaxAt w0) (h0 : 0 < x.size) (hw : wordLen x = 0) (h39 : x[0] = 39) (hc : 0 < wordLen (x.extract 1 x.size)) (hc2 : wordLen (x.extract 1 x.size) ≤ 100) :
    Calls Tryz.prog 32 #[.pointer (some ⟨b, 0, none⟩)] w (NextPost w0 rs b s k (nextS x.data.toList)) := by
  have HM0 := Tre.hid (((h.allocR (tokV 0 0 0 ⟨#[]⟩) 34).allocR #[.int .i64 0] 3).allocR #[.nilIface] 24)
  have HX := Tre.hid hx
  have hxs : x.size ≤ s.size := by
    have := congrArg List.length hx
    simp at this
    omega
  clear h hx
  have HMX := Tre.hid hm
  have HW0 := Tre.hid hw
  have HD0 := Tre.hid (drop_at x 0 h0)
  have hc255 := x[0].toNat_lt
  have e39 : ((x[0].toNat : Int) == 39) = true := by rw [h39]; rfl
  obtain ⟨m, hm'⟩ : ∃ m : Nat, m = wordLen (x.extract 1 x.size) := ⟨_, rfl⟩
  have HZ : Hid (wordLen (x.extract 1 x.size) = m) := hm'.symm
  have HZS : Hid ((x.extract 1 x.size).size + 1 = x.size) := by
    show _ = _
    rw [ByteArray.size_extract]; omega
  have hmx : m + 1 ≤ x.size := by have h1 := wordLen_le (x.extract 1 x.size); have h2 := HZS.out; omega
  have HDN := Tre.hid (nextS_tick h0 HW0.out h39 hm')
  rw [← hm'] at hc
  rw [← hm'] at hc2
  have HDN : Hid (nextS x.data.toList = some (⟨5, 0, 0, (x.extract 1 (m + 1)).data.toList⟩, m + 1)) := by show _ = _; rw [HDN.out, if_neg (by omega)]
  have e0 : ((m : Int) == 0) = false := by rw [beq_eq_false_iff_ne]; omega
  have hw1 : IntKind.i64.wrap ((m : Int) + 1) = (m : Int) + 1 := IntWalk.i64_in _ (by omega)
  have hw2 : ((m : Int) + 1).toNat = m + 1 := by omega
  have hw3 : (0 : Int) ≤ (m : Int) + 1 := by omega
  have hw4 : (m : Int) + 1 ≤ (x.size : Int) := by omega
  have hw5 : (1 : Int) ≤ (m : Int) + 1 := by omega
  clear hm'
  clear hm hw
  refine calls_marks Tryz.func32 rfl ?_
  simp only [Tryz.ntmps32, List.size_toArray, List.length_cons, List.length_nil, Nat.reduceAdd, Nat.reduceSub, Array.replicate_succ, Array.replicate_zero, List.push_toArray, List.append_toArray, List.nil_append, List.cons_append]
  go_wp2_with fail
  refine (rest_is b s k x _ (lexAt HM0.out 3 rfl) hk (by omega) HX.out).mono ?_
  rintro e w1 ⟨rfl, mq⟩
  have M1 := HM0.out.quiet mq
  simp only [World.size_alloc] at M1
  have HM1 := Tre.hid M1
  obtain ⟨l0, l1⟩ := M1.two 3 rfl
  have hbl := World.block_lt_of_cell? w1 _ l0
  have htl := (Array.getElem?_eq_some_iff.1 (M1.heap 2 rfl)).1
  have t1 : w1.cell? ⟨w.heap.size, 1, none⟩ = some (.int .i64 0) := M1.cell 2 rfl 1 rfl
  have f1 := M1.free 2 rfl 1
  clear mq M1 HM0
  simp only at hbl
  go_wp2_with fail
  refine (word x _ (by omega)).mono ?_
  rintro e w2 ⟨rfl, rfl⟩
  rw [HW0.out, show ((0 : Nat) : Int) = 0 from rfl]
  have M2 := (HM1.out.setCell 2 rfl 1 (.int .i64 (k : Int))).allocR #[.string x] 9
  rw [World.size_setCell] at M2
  generalize hg : ((w1.setCell ⟨w.heap.size, 1, none⟩ (.int .i64 (k : Int))).alloc (.cells #[.string x] 9)) = w2 at M2 ⊢
  have M2' : Mem w0 w2 (nextL w1.heap.size w.heap.size 0 k 0 ⟨#[]⟩ 0 .nilIface x b s k rs) := M2
  have HM2 := Tre.hid M2'
  have n1 := M2'.cell 2 rfl 0 rfl
  have n2 := M2'.free 2 rfl 0
  have s1 := M2'.cell 0 rfl 0 rfl
  have hne : w1.heap.size ≠ w.heap.size + 1 := by have := HM1.out.heap 1 rfl; intro e; rw [← e] at this; simp at this
  clear hg M2 M2' t1 f1 l0 l1 HM1
  go_wp2_with fail
  have M3 := HM2.out.setCell 2 rfl 0 (.int .i64 0)
  generalize hg : w2.setCell ⟨w.heap.size + 1, 0, none⟩ (.int .i64 0) = w3 at M3 ⊢
  have HM3 : Hid (Mem w0 w3 (nextL w1.heap.size w.heap.size 0 k 0 ⟨#[]⟩ 0 .nilIface x b s k rs)) := M3
  clear hg M3 HM2 n1 n2 s1
  refine (word (x.extract 1 x.size) _ (by have := HZS.out; omega)).mono ?_
  rintro e w' ⟨rfl, rfl⟩
  rw [HZ.out]
  have n1 := HM3.out.cell 2 rfl 0 rfl
  have n2 := HM3.out.free 2 rfl 0
  have s1 := HM3.out.cell 0 rfl 0 rfl
  go_wp2_with fail
  have M4 := HM3.out.setCell 2 rfl 0 (.int .i64 (m : Int))
  generalize hg : w3.setCell ⟨w.heap.size + 1, 0, none⟩ (.int .i64 (m : Int)) = w4 at M4 ⊢
  have HM4 : Hid (Mem w0 w4 (nextL w1.heap.size w.heap.size 0 k 0 ⟨#[]⟩ (m : Int) .nilIface x b s k rs)) := M4
  clear hg M4 HM3 n1 n2 s1
  refine wp_region_noPanic ?_
  refine wp_region_keep (S := (fun w' => w'.cell? ⟨w1.heap.size, 0, none⟩ = some (.string x) ∧ w'.cell? ⟨w.heap.size + 1, 0, none⟩ = some (.int .i64 (m : Int)))) [7] (by kernel_rfl) ?_ (fun hH0 => ?_)
  · exact ⟨HM4.out.cell 0 rfl 0 rfl, HM4.out.cell 2 rfl 0 rfl⟩
  have H0 := Tre.hid HM4.out.drew
  generalize hq : w4.drew = wq0 at H0 hH0 ⊢
  clear hq
  refine lPure (i := 4) (some 61) (v := ?_) (by rfl) (by kernel_rfl) (by kernel_rfl) (by kernel_rfl) (by kernel_rfl) (fun _ _ _ h => h) (by rfl) ?_ (keep_of hH0) ?_
  rotate_left
  · intro w; simp only [List.getElem?_toArray, List.getElem?_cons_succ, List.getElem?_cons_zero, Option.map_some, Option.some.injEq]; (first | (go_simp; done) | (go_simp; with_reducible rfl))
  try simp only [Act.put, List.setIfInBounds_toArray, List.set_cons_zero, List.set_cons_succ]
  refine lTake (i := 0) (some 57) (v := ?_) (by rfl) (by kernel_rfl) (by kernel_rfl) (by kernel_rfl) (by kernel_rfl) (by kernel_rfl) (fun _ _ _ h => h) (by rfl) ?_ hH0 ?_
  rotate_left
  · intro w hSw; (try dsimp only at hSw); simp only [List.getElem?_toArray, List.getElem?_cons_zero, Option.map_some, Option.some.injEq]; (first | (go_simp; done) | (go_simp; with_reducible rfl))
  try simp only [Act.put, List.setIfInBounds_toArray, List.set_cons_zero, List.set_cons_succ]
  refine lTake (i := 1) (some 58) (v := ?_) (by rfl) (by kernel_rfl) (by kernel_rfl) (by kernel_rfl) (by kernel_rfl) (by kernel_rfl) (fun _ _ _ h => h) (by rfl) ?_ hH0 ?_
  rotate_left
  · intro w hSw; (try dsimp only at hSw); simp only [List.getElem?_toArray, List.getElem?_cons_succ, List.getElem?_cons_zero, Option.map_some, Option.some.injEq]; (first | (go_simp; done) | (go_simp; with_reducible rfl))
  try simp only [Act.put, List.setIfInBounds_toArray, List.set_cons_zero, List.set_cons_succ]
  refine lPure (i := 2) (some 59) (v := ?_) (by rfl) (by kernel_rfl) (by kernel_rfl) (by kernel_rfl) (by kernel_rfl) (fun _ _ _ h => h) (by rfl) ?_ (keep_of hH0) ?_
  rotate_left
  · intro w; simp only [List.getElem?_toArray, List.getElem?_cons_succ, List.getElem?_cons_zero, Option.map_some, Option.some.injEq]; (first | (go_simp; done) | (go_simp; with_reducible rfl))
  try simp only [Act.put, List.setIfInBounds_toArray, List.set_cons_zero, List.set_cons_succ]
  refine lPure (i := 3) (some 60) (v := ?_) (by rfl) (by kernel_rfl) (by kernel_rfl) (by kernel_rfl) (by kernel_rfl) (fun _ _ _ h => h) (by rfl) ?_ (keep_of hH0) ?_
  rotate_left
  · intro w; simp only [List.getElem?_toArray, List.getElem?_cons_succ, List.getElem?_cons_zero, Option.map_some, Option.some.injEq]; (first | (go_simp; done) | (go_simp; with_reducible rfl))
  try simp only [Act.put, List.setIfInBounds_toArray, List.set_cons_zero, List.set_cons_succ]
  refine lOne 5 (by kernel_rfl) (LStep.op (fun K hK => ?_))
  have g0 := H0.out.cell 3 rfl 0 rfl
  have f0 := H0.out.free 3 rfl 0
  have H9 := H0.out.setCell 3 rfl 0 (.int .i64 5)
  go_simp
  generalize hw : wq0.setCell ⟨w.heap.size, 0, none⟩ (.int .i64 5) = wq1 at H9 ⊢
  have H1 := Tre.hid H9
  clear hw H9 g0 f0
  refine hK.out _ _ ?_ (fun hH1 => ?_)
  · exact ⟨H1.out.cell 0 rfl 0 rfl, H1.out.cell 2 rfl 0 rfl⟩
  clear hK K hH0
  try simp only [Act.put, List.setIfInBounds_toArray, List.set_cons_zero, List.set_cons_succ]
  refine lPure (i := 6) (some 62) (v := ?_) (by rfl) (by kernel_rfl) (by kernel_rfl) (by kernel_rfl) (by kernel_rfl) (fun _ _ _ h => h) (by rfl) ?_ (keep_of hH1) ?_
  rotate_left
  · intro w; simp only [List.getElem?_toArray, List.getElem?_cons_succ, List.getElem?_cons_zero, Option.map_some, Option.some.injEq]; (first | (go_simp; done) | (go_simp; with_reducible rfl))
  try simp only [Act.put, List.setIfInBounds_toArray, List.set_cons_zero, List.set_cons_succ]
  refine lOne 7 (by kernel_rfl) (LFall.op (by kernel_rfl) (fun K hK => ?_))
  have g0 := H1.out.cell 3 rfl 3 rfl
  have f0 := H1.out.free 3 rfl 3
  have H9 := H1.out.setCell 3 rfl 3 (.string (x.extract 1 (m + 1)))
  go_simp
  generalize hw : wq1.setCell ⟨w.heap.size, 3, none⟩ (.string (x.extract 1 (m + 1))) = wq2 at H9 ⊢
  have H2 := Tre.hid H9
  clear hw H9 g0 f0
  refine hK.out _ _ ?_
  clear hK K hH1
  try simp only [Act.put, List.setIfInBounds_toArray, List.set_cons_zero, List.set_cons_succ]
  refine lDone (by kernel_rfl) ?_
  refine NoPanic.normal ?_
  have HM5 : Hid (Mem w0 wq2 (nextL w1.heap.size w.heap.size 5 k 0 (x.extract 1 (m + 1)) (m : Int) .nilIface x b s k rs)) := H2.out
  clear H2
  go_wp2_with fail
  refine wp_region_noPanic ?_
  refine wp_region_keep (S := (fun w' => (w'.cell? ⟨w.heap.size, 0, none⟩ = some (.int .i64 5) ∧ w'.cell? ⟨w.heap.size, 1, none⟩ = some (.int .i64 k) ∧ w'.cell? ⟨w.heap.size, 2, none⟩ = some (.int .i64 0) ∧ w'.cell? ⟨w.heap.size, 3, none⟩ = some (.string (x.extract 1 (m + 1)))) ∧ w'.cell? ⟨w.heap.size + 1, 0, none⟩ = some (.int .i64 (m : Int)))) [4, 5] (by kernel_rfl) ?_ (fun hH0 => ?_)
  · exact ⟨⟨HM5.out.cell 3 rfl 0 rfl, HM5.out.cell 3 rfl 1 rfl, HM5.out.cell 3 rfl 2 rfl, HM5.out.cell 3 rfl 3 rfl⟩, HM5.out.cell 2 rfl 0 rfl⟩
  have H0 := Tre.hid HM5.out.drew
  generalize hq : wq2.drew = wq0 at H0 hH0 ⊢
  clear hq
  refine lTake (i := 0) (some 63) (v := ?_) (by rfl) (by kernel_rfl) (by kernel_rfl) (by kernel_rfl) (by kernel_rfl) (by kernel_rfl) (fun _ _ _ h => h) (by rfl) ?_ hH0 ?_
  rotate_left
  · intro w hSw; (try dsimp only at hSw); simp only [List.getElem?_toArray, List.getElem?_cons_zero, Option.map_some, Option.some.injEq]; (first | (go_simp; done) | (go_simp; with_reducible rfl))
  try simp only [Act.put, List.setIfInBounds_toArray, List.set_cons_zero, List.set_cons_succ]
  refine lTake (i := 1) (some 64) (v := ?_) (by rfl) (by kernel_rfl) (by kernel_rfl) (by kernel_rfl) (by kernel_rfl) (by kernel_rfl) (fun _ _ _ h => h) (by rfl) ?_ hH0 ?_
  rotate_left
  · intro w hSw; (try dsimp only at hSw); simp only [List.getElem?_toArray, List.getElem?_cons_succ, List.getElem?_cons_zero, Option.map_some, Option.some.injEq]; (first | (go_simp; done) | (go_simp; with_reducible rfl))
  try simp only [Act.put, List.setIfInBounds_toArray, List.set_cons_zero, List.set_cons_succ]
  refine lPure (i := 2) (some 65) (v := ?_) (by rfl) (by kernel_rfl) (by kernel_rfl) (by kernel_rfl) (by kernel_rfl) (fun _ _ _ h => h) (by rfl) ?_ (keep_of hH0) ?_
  rotate_left
  · intro w; simp only [List.getElem?_toArray, List.getElem?_cons_succ, List.getElem?_cons_zero, Option.map_some, Option.some.injEq]; (first | (go_simp; done) | (go_simp; with_reducible rfl))
  try simp only [Act.put, List.setIfInBounds_toArray, List.set_cons_zero, List.set_cons_succ]
  refine lOne 3 (by kernel_rfl) (LStep.op (fun K hK => ?_))
  have g0 := H0.out.cell 3 rfl 0 rfl
  have g1 := H0.out.cell 3 rfl 1 rfl
  have g2 := H0.out.cell 3 rfl 2 rfl
  have g3 := H0.out.cell 3 rfl 3 rfl
  have f0 := H0.out.free 3 rfl 0
  have f1 := H0.out.free 3 rfl 1
  have f2 := H0.out.free 3 rfl 2
  have f3 := H0.out.free 3 rfl 3
  have H9 := ((((H0.out.setCell 3 rfl 0 (.int .i64 5)).setCell 3 rfl 1 (.int .i64 k)).setCell 3 rfl 2 (.int .i64 0)).setCell 3 rfl 3 (.string (x.extract 1 (m + 1))))
  go_simp
  generalize hw : ((((wq0.setCell ⟨w.heap.size, 0, none⟩ (.int .i64 5)).setCell ⟨w.heap.size, 1, none⟩ (.int .i64 k)).setCell ⟨w.heap.size, 2, none⟩ (.int .i64 0)).setCell ⟨w.heap.size, 3, none⟩ (.string (x.extract 1 (m + 1)))) = wq1 at H9 ⊢
  have H1 := Tre.hid H9
  clear hw H9 g0 g1 g2 g3 f0 f1 f2 f3
  refine hK.out _ _ ?_ (fun hH1 => ?_)
  · exact ⟨⟨H1.out.cell 3 rfl 0 rfl, H1.out.cell 3 rfl 1 rfl, H1.out.cell 3 rfl 2 rfl, H1.out.cell 3 rfl 3 rfl⟩, H1.out.cell 2 rfl 0 rfl⟩
  clear hK K hH0
  try simp only [Act.put, List.setIfInBounds_toArray, List.set_cons_zero, List.set_cons_succ]
  refine lOne 4 (by kernel_rfl) (LFall.op (by kernel_rfl) (fun K hK => ?_))
  have g0 := H1.out.cell 2 rfl 0 rfl
  have f0 := H1.out.free 2 rfl 0
  have H9 := H1.out.setCell 2 rfl 0 (.int .i64 ((m : Int) + 1))
  go_simp
  generalize hw : wq1.setCell ⟨w.heap.size + 1, 0, none⟩ (.int .i64 ((m : Int) + 1)) = wq2 at H9 ⊢
  have H2 := Tre.hid H9
  clear hw H9 g0 f0
  refine hK.out _ _ ?_
  clear hK K hH1
  try simp only [Act.put, List.setIfInBounds_toArray, List.set_cons_zero, List.set_cons_succ]
  refine lOne 5 (by kernel_rfl) (LFall.op (by kernel_rfl) (fun K hK => ?_))
  have g0 := H2.out.cell 1 rfl 0 rfl
  have f0 := H2.out.free 1 rfl 0
  have H9 := H2.out.setCell 1 rfl 0 .nilIface
  go_simp
  generalize hw : wq2.setCell ⟨w.heap.size + 1 + 1, 0, none⟩ .nilIface = wq3 at H9 ⊢
  have H3 := Tre.hid H9
  clear hw H9 g0 f0
  refine hK.out _ _ ?_
  clear hK K
  try simp only [Act.put, List.setIfInBounds_toArray, List.set_cons_zero, List.set_cons_succ]
  refine lDone (by kernel_rfl) ?_
  refine NoPanic.normal ?_
  go_wp2_with fail
  have H9 : Mem w0 wq3 (nextL w1.heap.size w.heap.size 5 k 0 (x.extract 1 (m + 1)) ((m : Int) + 1) .nilIface x b s k rs) := H3.out
  refine bodyPostM_ret (next_results _ w.heap.size 5 k 0 ((m : Int) + 1) (x.extract 1 (m + 1)) .nilIface _ rfl rfl rfl (H9.heap 3 rfl) (H9.heap 2 rfl) (H9.heap 1 rfl)) rfl ?_
  exact .inl ⟨⟨5, 0, 0, (x.extract 1 (m + 1)).data.toList⟩, m + 1, x.extract 1 (m + 1), HDN.out, rfl, rfl, ((((H9.del 0).del 0).del 0).del 0)⟩
end Go.Proofs.YtcpcheengfgpaaaGreatDoor.lex
