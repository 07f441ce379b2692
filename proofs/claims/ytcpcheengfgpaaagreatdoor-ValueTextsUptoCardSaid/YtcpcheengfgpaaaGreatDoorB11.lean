/- (*lexer).next: a word. -/
import Derived.Test.YtcpcheengfgpaaaGreatDoorB07
import Derived.Test.YtcpcheengfgpaaaGreatDoorB01
import Derived.Deep.RegionHeld3
set_option linter.unusedVariables false
namespace Go.Proofs.YtcpcheengfgpaaaGreatDoor.lex
open Go.RowKit Go.Tre
theorem nextS_long {x : ByteArray} (h : 100 < wordLen x) : nextS x.data.toList = none := by
  have h' : wordFrom true x.data.toList > 100 := h
  unfold nextS
  rw [if_pos (by omega), if_pos h']
theorem nextS_word {x y : ByteArray} (h0 : 0 < wordLen x) (h1 : wordLen x ≤ 100) (hy : y.data.toList = x.data.toList.take (wordLen x)) (kd : Nat) (hk : (if isKey y = true then 2 else 1) = kd) :
    nextS x.data.toList = some (⟨kd, 0, 0, y.data.toList⟩, wordLen x) := by
  have h0' : wordFrom true x.data.toList > 0 := h0
  have h1' : ¬ wordFrom true x.data.toList > 100 := Nat.not_lt.2 h1
  unfold nextS
  rw [if_pos h0', if_neg h1', ← hk, hy]
  unfold isKey
  rw [hy]
  rfl
set_option maxRecDepth 100000 in
set_option maxHeartbeats 8000000 in
theorem next_word_long (w0 : World) (rs : List Res) (b : Nat) (s x : ByteArray) (k : Nat) (w : World) (h : Mem w0 w (lexR b s k :: rs)) (hk : k ≤ s.size) (hs : s.size ≤ 4194304) (hx : x.data.toList = s.data.toList.drop k) (hm : MaxAt w0) (hw : 100 < wordLen x) :
    Calls Tryz.prog 32 #[.pointer (some ⟨b, 0, none⟩)] w (NextPost w0 rs b s k (nextS x.data.toList)) := by
  have HM0 := Tre.hid (((h.allocR (tokV 0 0 0 ⟨#[]⟩) 34).allocR #[.int .i64 0] 3).allocR #[.nilIface] 24)
  have HX := Tre.hid hx
  have hxs : x.size ≤ s.size := by
    have := congrArg List.length hx
    simp at this
    omega
  clear h hx
  have HMX := Tre.hid hm
  have HDN := Tre.hid (nextS_long hw)
  clear hm
  refine calls_marks Tryz.func32 rfl ?_
  simp only [Tryz.ntmps32, List.size_toArray, List.length_cons, List.length_nil, Nat.reduceAdd, Nat.reduceSub, Array.replicate_succ, Array.replicate_zero, List.push_toArray, List.append_toArray, List.nil_append, List.cons_append]
  go_wp2_with fail
  refine (rest_is b s k x _ (lexAt HM0.out 3 rfl) hk (by omega) HX.out).mono ?_
  rintro e w1 ⟨rfl, mq⟩
  have M1 := HM0.out.quiet mq
  simp only [World.size_alloc] at M1
  have HM1 := Tre.hid M1
  obtain ⟨l0, l1⟩ := M1.two 3 rfl
  have hbl := World.block_lt_of_cell? w1 _ l0
  have htl := (Array.getElem?_eq_some_iff.1 (M1.heap 2 rfl)).1
  have t1 : w1.cell? ⟨w.heap.size, 1, none⟩ = some (.int .i64 0) := M1.cell 2 rfl 1 rfl
  have f1 := M1.free 2 rfl 1
  clear mq M1 HM0
  simp only at hbl
  go_wp2_with fail
  refine (word x _ (by omega)).mono ?_
  rintro e w2 ⟨rfl, rfl⟩
  have M2 := (HM1.out.setCell 2 rfl 1 (.int .i64 (k : Int))).allocR #[.string x] 9
  rw [World.size_setCell] at M2
  generalize hg : ((w1.setCell ⟨w.heap.size, 1, none⟩ (.int .i64 (k : Int))).alloc (.cells #[.string x] 9)) = w2 at M2 ⊢
  have M2' : Mem w0 w2 (nextL w1.heap.size w.heap.size 0 k 0 ⟨#[]⟩ 0 .nilIface x b s k rs) := M2
  have HM2 := Tre.hid M2'
  have n1 := M2'.cell 2 rfl 0 rfl
  have n2 := M2'.free 2 rfl 0
  have s1 := M2'.cell 0 rfl 0 rfl
  have hne : w1.heap.size ≠ w.heap.size + 1 := by have := HM1.out.heap 1 rfl; intro e; rw [← e] at this; simp at this
  clear hg M2 M2' t1 f1 l0 l1 HM1
  have M3 := HM2.out.setCell 2 rfl 0 (.int .i64 (wordLen x : Int))
  have hwl := wordLen_le x
  have hw0 : 0 < wordLen x := by omega
  go_wp2_with fail
  generalize hg : w2.setCell ⟨w.heap.size + 1, 0, none⟩ (.int .i64 (wordLen x : Int)) = w3 at M3 ⊢
  have HM3 : Hid (Mem w0 w3 (nextL w1.heap.size w.heap.size 0 k 0 ⟨#[]⟩ (wordLen x) .nilIface x b s k rs)) := M3
  clear hg M3 HM2 n1 n2 s1
  refine wp_region_noPanic ?_
  refine wp_region_keep (S := (fun w' => w'.cell? ⟨w1.heap.size, 0, none⟩ = some (.string x) ∧ w'.cell? ⟨w.heap.size + 1, 0, none⟩ = some (.int .i64 (wordLen x : Int)))) [6] (by kernel_rfl) ?_ (fun hH0 => ?_)
  · exact ⟨HM3.out.cell 0 rfl 0 rfl, HM3.out.cell 2 rfl 0 rfl⟩
  have H0 := Tre.hid HM3.out.drew
  generalize hq : w3.drew = wq0 at H0 hH0 ⊢
  clear hq
  refine lPure (i := 3) (some 27) (v := ?_) (by rfl) (by kernel_rfl) (by kernel_rfl) (by kernel_rfl) (by kernel_rfl) (fun _ _ _ h => h) (by rfl) ?_ (keep_of hH0) ?_
  rotate_left
  · intro w; simp only [List.getElem?_toArray, List.getElem?_cons_succ, List.getElem?_cons_zero, Option.map_some, Option.some.injEq]; (first | (go_simp; done) | (go_simp; with_reducible rfl))
  try simp only [Act.put, List.setIfInBounds_toArray, List.set_cons_zero, List.set_cons_succ]
  refine lTake (i := 0) (some 24) (v := ?_) (by rfl) (by kernel_rfl) (by kernel_rfl) (by kernel_rfl) (by kernel_rfl) (by kernel_rfl) (fun _ _ _ h => h) (by rfl) ?_ hH0 ?_
  rotate_left
  · intro w hSw; (try dsimp only at hSw); simp only [List.getElem?_toArray, List.getElem?_cons_zero, Option.map_some, Option.some.injEq]; (first | (go_simp; done) | (go_simp; with_reducible rfl))
  try simp only [Act.put, List.setIfInBounds_toArray, List.set_cons_zero, List.set_cons_succ]
  refine lTake (i := 1) (some 25) (v := ?_) (by rfl) (by kernel_rfl) (by kernel_rfl) (by kernel_rfl) (by kernel_rfl) (by kernel_rfl) (fun _ _ _ h => h) (by rfl) ?_ hH0 ?_
  rotate_left
  · intro w hSw; (try dsimp only at hSw); simp only [List.getElem?_toArray, List.getElem?_cons_succ, List.getElem?_cons_zero, Option.map_some, Option.some.injEq]; (first | (go_simp; done) | (go_simp; with_reducible rfl))
  try simp only [Act.put, List.setIfInBounds_toArray, List.set_cons_zero, List.set_cons_succ]
  refine lPure (i := 2) (some 26) (v := ?_) (by rfl) (by kernel_rfl) (by kernel_rfl) (by kernel_rfl) (by kernel_rfl) (fun _ _ _ h => h) (by rfl) ?_ (keep_of hH0) ?_
  rotate_left
  · intro w; simp only [List.getElem?_toArray, List.getElem?_cons_succ, List.getElem?_cons_zero, Option.map_some, Option.some.injEq]; (first | (go_simp; done) | (go_simp; with_reducible rfl))
  try simp only [Act.put, List.setIfInBounds_toArray, List.set_cons_zero, List.set_cons_succ]
  refine lOne 4 (by kernel_rfl) (LStep.op (fun K hK => ?_))
  have g0 := H0.out.cell 3 rfl 0 rfl
  have f0 := H0.out.free 3 rfl 0
  have H9 := H0.out.setCell 3 rfl 0 (.int .i64 1)
  go_simp
  generalize hw : wq0.setCell ⟨w.heap.size, 0, none⟩ (.int .i64 1) = wq1 at H9 ⊢
  have H1 := Tre.hid H9
  clear hw H9 g0 f0
  refine hK.out _ _ ?_ (fun hH1 => ?_)
  · exact ⟨H1.out.cell 0 rfl 0 rfl, H1.out.cell 2 rfl 0 rfl⟩
  clear hK K hH0
  try simp only [Act.put, List.setIfInBounds_toArray, List.set_cons_zero, List.set_cons_succ]
  refine lPure (i := 5) (some 28) (v := ?_) (by rfl) (by kernel_rfl) (by kernel_rfl) (by kernel_rfl) (by kernel_rfl) (fun _ _ _ h => h) (by rfl) ?_ (keep_of hH1) ?_
  rotate_left
  · intro w; simp only [List.getElem?_toArray, List.getElem?_cons_succ, List.getElem?_cons_zero, Option.map_some, Option.some.injEq]; (first | (go_simp; done) | (go_simp; with_reducible rfl))
  try simp only [Act.put, List.setIfInBounds_toArray, List.set_cons_zero, List.set_cons_succ]
  refine lOne 6 (by kernel_rfl) (LFall.op (by kernel_rfl) (fun K hK => ?_))
  have g0 := H1.out.cell 3 rfl 3 rfl
  have f0 := H1.out.free 3 rfl 3
  have H9 := H1.out.setCell 3 rfl 3 (.string (x.extract 0 (wordLen x)))
  go_simp
  generalize hw : wq1.setCell ⟨w.heap.size, 3, none⟩ (.string (x.extract 0 (wordLen x))) = wq2 at H9 ⊢
  have H2 := Tre.hid H9
  clear hw H9 g0 f0
  refine hK.out _ _ ?_
  clear hK K hH1
  try simp only [Act.put, List.setIfInBounds_toArray, List.set_cons_zero, List.set_cons_succ]
  refine lDone (by kernel_rfl) ?_
  refine NoPanic.normal ?_
  have M5 : Mem w0 wq2 (nextL w1.heap.size w.heap.size 1 k 0 (x.extract 0 (wordLen x)) (wordLen x) .nilIface x b s k rs) := H2.out
  generalize hyy : x.extract 0 (wordLen x) = y at *
  have HY : Hid (y.data.toList = x.data.toList.take (wordLen x)) := by
    show _ = _
    rw [← hyy, extract_take x 0 _ hwl]; simp
  have hys : y.size ≤ 4194304 := by
    have h1 := congrArg List.length HY.out
    have h2 : y.size = y.data.toList.length := rfl
    simp at h1
    omega
  have HM5 := Tre.hid M5
  have y1 := M5.cell 3 rfl 3 rfl
  have k1 := M5.cell 3 rfl 0 rfl
  have kf := M5.free 3 rfl 0
  have n1 := M5.cell 2 rfl 0 rfl
  clear H2 M5 hyy
  cases hkb : isKey y
  · have HKB := Tre.hid hkb
    clear hkb
    go_wp2_with fail
    refine (isKey_any y _ (by omega) (HMX.out.below HM5.out.below)).mono ?_
    rintro e w' ⟨rfl, rfl⟩
    rw [HKB.out]
    go_wp2_with fail
    refine wp_region_noPanic ?_
    refine wp_region_keep (S := (fun w' => (w'.cell? ⟨w.heap.size, 0, none⟩ = some (.int .i64 1) ∧ w'.cell? ⟨w.heap.size, 1, none⟩ = some (.int .i64 k) ∧ w'.cell? ⟨w.heap.size, 2, none⟩ = some (.int .i64 0) ∧ w'.cell? ⟨w.heap.size, 3, none⟩ = some (.string y)) ∧ w'.cell? ⟨w.heap.size + 1, 0, none⟩ = some (.int .i64 (wordLen x : Int)))) [3, 4, 5] (by kernel_rfl) ?_ (fun hH0 => ?_)
    · exact ⟨⟨HM5.out.cell 3 rfl 0 rfl, HM5.out.cell 3 rfl 1 rfl, HM5.out.cell 3 rfl 2 rfl, HM5.out.cell 3 rfl 3 rfl⟩, HM5.out.cell 2 rfl 0 rfl⟩
    have H0 := Tre.hid HM5.out.drew
    generalize hq : wq2.drew = wq0 at H0 hH0 ⊢
    clear hq
    refine lPure (i := 1) (some 36) (v := ?_) (by rfl) (by kernel_rfl) (by kernel_rfl) (by kernel_rfl) (by kernel_rfl) (fun _ _ _ h => h) (by rfl) ?_ (keep_of hH0) ?_
    rotate_left
    · intro w; simp only [List.getElem?_toArray, List.getElem?_cons_succ, List.getElem?_cons_zero, Option.map_some, Option.some.injEq]; (first | (go_simp; done) | (go_simp; with_reducible rfl))
    try simp only [Act.put, List.setIfInBounds_toArray, List.set_cons_zero, List.set_cons_succ]
    refine lTake (i := 0) (some 35) (v := ?_) (by rfl) (by kernel_rfl) (by kernel_rfl) (by kernel_rfl) (by kernel_rfl) (by kernel_rfl) (fun _ _ _ h => h) (by rfl) ?_ hH0 ?_
    rotate_left
    · intro w hSw; (try dsimp only at hSw); simp only [List.getElem?_toArray, List.getElem?_cons_zero, Option.map_some, Option.some.injEq]; (first | (go_simp; done) | (go_simp; with_reducible rfl))
    try simp only [Act.put, List.setIfInBounds_toArray, List.set_cons_zero, List.set_cons_succ]
    refine lOne 2 (by kernel_rfl) (LStep.op (fun K hK => ?_))
    go_simp
    refine (fail b s k wq0 (lexAt H0.out 4 rfl)).mono ?_
    rintro e w' ⟨rfl, rfl⟩
    have H9 := errNew (k := k) H0.out
    generalize hev : wq0.heap.size = ev at H9 ⊢
    generalize hw : wq0.alloc (.cells #[.int .i64 (k : Int), .int .i64 5] 48) = wq1 at H9 ⊢
    have H1 := Tre.hid H9
    clear H9 hw hev
    (try dsimp only)
    refine hK.out _ _ ?_ (fun hH1 => ?_)
    · exact ⟨⟨H1.out.cell 4 rfl 0 rfl, H1.out.cell 4 rfl 1 rfl, H1.out.cell 4 rfl 2 rfl, H1.out.cell 4 rfl 3 rfl⟩, H1.out.cell 3 rfl 0 rfl⟩
    clear hK K hH0
    try simp only [Act.put, List.setIfInBounds_toArray, List.set_cons_zero, List.set_cons_succ]
    refine lOne 3 (by kernel_rfl) (LFall.op (by kernel_rfl) (fun K hK => ?_))
    have g0 := H1.out.cell 4 rfl 0 rfl
    have g1 := H1.out.cell 4 rfl 1 rfl
    have g2 := H1.out.cell 4 rfl 2 rfl
    have g3 := H1.out.cell 4 rfl 3 rfl
    have f0 := H1.out.free 4 rfl 0
    have f1 := H1.out.free 4 rfl 1
    have f2 := H1.out.free 4 rfl 2
    have f3 := H1.out.free 4 rfl 3
    have H9 := ((((H1.out.setCell 4 rfl 0 (.int .i64 1)).setCell 4 rfl 1 (.int .i64 k)).setCell 4 rfl 2 (.int .i64 0)).setCell 4 rfl 3 (.string y))
    go_simp
    generalize hw : ((((wq1.setCell ⟨w.heap.size, 0, none⟩ (.int .i64 1)).setCell ⟨w.heap.size, 1, none⟩ (.int .i64 k)).setCell ⟨w.heap.size, 2, none⟩ (.int .i64 0)).setCell ⟨w.heap.size, 3, none⟩ (.string y)) = wq2 at H9 ⊢
    have H2 := Tre.hid H9
    clear hw H9 g0 g1 g2 g3 f0 f1 f2 f3
    refine hK.out _ _ ?_
    clear hK K hH1
    try simp only [Act.put, List.setIfInBounds_toArray, List.set_cons_zero, List.set_cons_succ]
    refine lOne 4 (by kernel_rfl) (LFall.op (by kernel_rfl) (fun K hK => ?_))
    have g0 := H2.out.cell 3 rfl 0 rfl
    have f0 := H2.out.free 3 rfl 0
    have H9 := H2.out.setCell 3 rfl 0 (.int .i64 0)
    go_simp
    generalize hw : wq2.setCell ⟨w.heap.size + 1, 0, none⟩ (.int .i64 0) = wq3 at H9 ⊢
    have H3 := Tre.hid H9
    clear hw H9 g0 f0
    refine hK.out _ _ ?_
    clear hK K
    try simp only [Act.put, List.setIfInBounds_toArray, List.set_cons_zero, List.set_cons_succ]
    refine lOne 5 (by kernel_rfl) (LFall.op (by kernel_rfl) (fun K hK => ?_))
    have g0 := H3.out.cell 2 rfl 0 rfl
    have f0 := H3.out.free 2 rfl 0
    have H9 := H3.out.setCell 2 rfl 0 (.iface 44 (.pointer (some ⟨ev, 0, none⟩)))
    go_simp
    generalize hw : wq3.setCell ⟨w.heap.size + 1 + 1, 0, none⟩ (.iface 44 (.pointer (some ⟨ev, 0, none⟩))) = wq4 at H9 ⊢
    have H4 := Tre.hid H9
    clear hw H9 g0 f0
    refine hK.out _ _ ?_
    clear hK K
    try simp only [Act.put, List.setIfInBounds_toArray, List.set_cons_zero, List.set_cons_succ]
    refine lDone (by kernel_rfl) ?_
    refine NoPanic.normal ?_
    go_wp2_with fail
    have H9 : Mem w0 wq4 (errR [ev] (.iface 44 (.pointer (some ⟨ev, 0, none⟩))) k 5 :: nextL w1.heap.size w.heap.size 1 k 0 y 0 (.iface 44 (.pointer (some ⟨ev, 0, none⟩))) x b s k rs) := H4.out
    refine bodyPostM_ret (next_results _ w.heap.size 1 k 0 0 y (.iface 44 (.pointer (some ⟨ev, 0, none⟩))) _ rfl rfl rfl (H9.heap 4 rfl) (H9.heap 3 rfl) (H9.heap 2 rfl)) rfl ?_
    exact .inr ⟨HDN.out, _, _, _, _, _, _, [ev], rfl, ((((H9.del 1).del 1).del 1).del 1)⟩
  · have HKB := Tre.hid hkb
    clear hkb
    go_wp2_with fail
    refine (isKey_any y _ (by omega) (HMX.out.below HM5.out.below)).mono ?_
    rintro e w' ⟨rfl, rfl⟩
    rw [HKB.out]
    go_wp2_with fail
    have M6 := HM5.out.setCell 3 rfl 0 (.int .i64 2)
    generalize hg : wq2.setCell ⟨w.heap.size, 0, none⟩ (.int .i64 2) = w6 at M6 ⊢
    have HM6 : Hid (Mem w0 w6 (nextL w1.heap.size w.heap.size 2 k 0 y (wordLen x) .nilIface x b s k rs)) := M6
    clear hg M6 y1 k1 kf n1
    refine wp_region_noPanic ?_
    refine wp_region_keep (S := (fun w' => (w'.cell? ⟨w.heap.size, 0, none⟩ = some (.int .i64 2) ∧ w'.cell? ⟨w.heap.size, 1, none⟩ = some (.int .i64 k) ∧ w'.cell? ⟨w.heap.size, 2, none⟩ = some (.int .i64 0) ∧ w'.cell? ⟨w.heap.size, 3, none⟩ = some (.string y)) ∧ w'.cell? ⟨w.heap.size + 1, 0, none⟩ = some (.int .i64 (wordLen x : Int)))) [3, 4, 5] (by kernel_rfl) ?_ (fun hH0 => ?_)
    · exact ⟨⟨HM6.out.cell 3 rfl 0 rfl, HM6.out.cell 3 rfl 1 rfl, HM6.out.cell 3 rfl 2 rfl, HM6.out.cell 3 rfl 3 rfl⟩, HM6.out.cell 2 rfl 0 rfl⟩
    have H0 := Tre.hid HM6.out.drew
    generalize hq : w6.drew = wq0 at H0 hH0 ⊢
    clear hq
    refine lPure (i := 1) (some 36) (v := ?_) (by rfl) (by kernel_rfl) (by kernel_rfl) (by kernel_rfl) (by kernel_rfl) (fun _ _ _ h => h) (by rfl) ?_ (keep_of hH0) ?_
    rotate_left
    · intro w; simp only [List.getElem?_toArray, List.getElem?_cons_succ, List.getElem?_cons_zero, Option.map_some, Option.some.injEq]; (first | (go_simp; done) | (go_simp; with_reducible rfl))
    try simp only [Act.put, List.setIfInBounds_toArray, List.set_cons_zero, List.set_cons_succ]
    refine lTake (i := 0) (some 35) (v := ?_) (by rfl) (by kernel_rfl) (by kernel_rfl) (by kernel_rfl) (by kernel_rfl) (by kernel_rfl) (fun _ _ _ h => h) (by rfl) ?_ hH0 ?_
    rotate_left
    · intro w hSw; (try dsimp only at hSw); simp only [List.getElem?_toArray, List.getElem?_cons_zero, Option.map_some, Option.some.injEq]; (first | (go_simp; done) | (go_simp; with_reducible rfl))
    try simp only [Act.put, List.setIfInBounds_toArray, List.set_cons_zero, List.set_cons_succ]
    refine lOne 2 (by kernel_rfl) (LStep.op (fun K hK => ?_))
    go_simp
    refine (fail b s k wq0 (lexAt H0.out 4 rfl)).mono ?_
    rintro e w' ⟨rfl, rfl⟩
    have H9 := errNew (k := k) H0.out
    generalize hev : wq0.heap.size = ev at H9 ⊢
    generalize hw : wq0.alloc (.cells #[.int .i64 (k : Int), .int .i64 5] 48) = wq1 at H9 ⊢
    have H1 := Tre.hid H9
    clear H9 hw hev
    (try dsimp only)
    refine hK.out _ _ ?_ (fun hH1 => ?_)
    · exact ⟨⟨H1.out.cell 4 rfl 0 rfl, H1.out.cell 4 rfl 1 rfl, H1.out.cell 4 rfl 2 rfl, H1.out.cell 4 rfl 3 rfl⟩, H1.out.cell 3 rfl 0 rfl⟩
    clear hK K hH0
    try simp only [Act.put, List.setIfInBounds_toArray, List.set_cons_zero, List.set_cons_succ]
    refine lOne 3 (by kernel_rfl) (LFall.op (by kernel_rfl) (fun K hK => ?_))
    have g0 := H1.out.cell 4 rfl 0 rfl
    have g1 := H1.out.cell 4 rfl 1 rfl
    have g2 := H1.out.cell 4 rfl 2 rfl
    have g3 := H1.out.cell 4 rfl 3 rfl
    have f0 := H1.out.free 4 rfl 0
    have f1 := H1.out.free 4 rfl 1
    have f2 := H1.out.free 4 rfl 2
    have f3 := H1.out.free 4 rfl 3
    have H9 := ((((H1.out.setCell 4 rfl 0 (.int .i64 2)).setCell 4 rfl 1 (.int .i64 k)).setCell 4 rfl 2 (.int .i64 0)).setCell 4 rfl 3 (.string y))
    go_simp
    generalize hw : ((((wq1.setCell ⟨w.heap.size, 0, none⟩ (.int .i64 2)).setCell ⟨w.heap.size, 1, none⟩ (.int .i64 k)).setCell ⟨w.heap.size, 2, none⟩ (.int .i64 0)).setCell ⟨w.heap.size, 3, none⟩ (.string y)) = wq2 at H9 ⊢
    have H2 := Tre.hid H9
    clear hw H9 g0 g1 g2 g3 f0 f1 f2 f3
    refine hK.out _ _ ?_
    clear hK K hH1
    try simp only [Act.put, List.setIfInBounds_toArray, List.set_cons_zero, List.set_cons_succ]
    refine lOne 4 (by kernel_rfl) (LFall.op (by kernel_rfl) (fun K hK => ?_))
    have g0 := H2.out.cell 3 rfl 0 rfl
    have f0 := H2.out.free 3 rfl 0
    have H9 := H2.out.setCell 3 rfl 0 (.int .i64 0)
    go_simp
    generalize hw : wq2.setCell ⟨w.heap.size + 1, 0, none⟩ (.int .i64 0) = wq3 at H9 ⊢
    have H3 := Tre.hid H9
    clear hw H9 g0 f0
    refine hK.out _ _ ?_
    clear hK K
    try simp only [Act.put, List.setIfInBounds_toArray, List.set_cons_zero, List.set_cons_succ]
    refine lOne 5 (by kernel_rfl) (LFall.op (by kernel_rfl) (fun K hK => ?_))
    have g0 := H3.out.cell 2 rfl 0 rfl
    have f0 := H3.out.free 2 rfl 0
    have H9 := H3.out.setCell 2 rfl 0 (.iface 44 (.pointer (some ⟨ev, 0, none⟩)))
    go_simp
    generalize hw : wq3.setCell ⟨w.heap.size + 1 + 1, 0, none⟩ (.iface 44 (.pointer (some ⟨ev, 0, none⟩))) = wq4 at H9 ⊢
    have H4 := Tre.hid H9
    clear hw H9 g0 f0
    refine hK.out _ _ ?_
    clear hK K
    try simp only [Act.put, List.setIfInBounds_toArray, List.set_cons_zero, List.set_cons_succ]
    refine lDone (by kernel_rfl) ?_
    refine NoPanic.normal ?_
    go_wp2_with fail
    have H9 : Mem w0 wq4 (errR [ev] (.iface 44 (.pointer (some ⟨ev, 0, none⟩))) k 5 :: nextL w1.heap.size w.heap.size 2 k 0 y 0 (.iface 44 (.pointer (some ⟨ev, 0, none⟩))) x b s k rs) := H4.out
    refine bodyPostM_ret (next_results _ w.heap.size 2 k 0 0 y (.iface 44 (.pointer (some ⟨ev, 0, none⟩))) _ rfl rfl rfl (H9.heap 4 rfl) (H9.heap 3 rfl) (H9.heap 2 rfl)) rfl ?_
    exact .inr ⟨HDN.out, _, _, _, _, _, _, [ev], rfl, ((((H9.del 1).del 1).del 1).del 1)⟩
set_option maxRecDepth 100000 in
set_option maxHeartbeats 8000000 in
theorem next_word_short (w0 : World) (rs : List Res) (b : Nat) (s x : ByteArray) (k : Nat) (w : World) (h : Mem w0 w (lexR b s k :: rs)) (hk : k ≤ s.size) (hs : s.size ≤ 4194304) (hx : x.data.toList = s.data.toList.drop k) (hm : MaxAt w0) (hw : 0 < wordLen x ∧ wordLen x ≤ 100) :
    Calls Tryz.prog 32 #[.pointer (some ⟨b, 0, none⟩)] w (NextPost w0 rs b s k (nextS x.data.toList)) := by
  have HM0 := Tre.hid (((h.allocR (tokV 0 0 0 ⟨#[]⟩) 34).allocR #[.int .i64 0] 3).allocR #[.nilIface] 24)
  have HX := Tre.hid hx
  have hxs : x.size ≤ s.size := by
    have := congrArg List.length hx
    simp at this
    omega
  clear h hx
  have HMX := Tre.hid hm
  clear hm
  have hw1 := hw.1
  have hw2 := hw.2
  refine calls_marks Tryz.func32 rfl ?_
  simp only [Tryz.ntmps32, List.size_toArray, List.length_cons, List.length_nil, Nat.reduceAdd, Nat.reduceSub, Array.replicate_succ, Array.replicate_zero, List.push_toArray, List.append_toArray, List.nil_append, List.cons_append]
  go_wp2_with fail
  refine (rest_is b s k x _ (lexAt HM0.out 3 rfl) hk (by omega) HX.out).mono ?_
  rintro e w1 ⟨rfl, mq⟩
  have M1 := HM0.out.quiet mq
  simp only [World.size_alloc] at M1
  have HM1 := Tre.hid M1
  obtain ⟨l0, l1⟩ := M1.two 3 rfl
  have hbl := World.block_lt_of_cell? w1 _ l0
  have htl := (Array.getElem?_eq_some_iff.1 (M1.heap 2 rfl)).1
  have t1 : w1.cell? ⟨w.heap.size, 1, none⟩ = some (.int .i64 0) := M1.cell 2 rfl 1 rfl
  have f1 := M1.free 2 rfl 1
  clear mq M1 HM0
  simp only at hbl
  go_wp2_with fail
  refine (word x _ (by omega)).mono ?_
  rintro e w2 ⟨rfl, rfl⟩
  have M2 := (HM1.out.setCell 2 rfl 1 (.int .i64 (k : Int))).allocR #[.string x] 9
  rw [World.size_setCell] at M2
  generalize hg : ((w1.setCell ⟨w.heap.size, 1, none⟩ (.int .i64 (k : Int))).alloc (.cells #[.string x] 9)) = w2 at M2 ⊢
  have M2' : Mem w0 w2 (nextL w1.heap.size w.heap.size 0 k 0 ⟨#[]⟩ 0 .nilIface x b s k rs) := M2
  have HM2 := Tre.hid M2'
  have n1 := M2'.cell 2 rfl 0 rfl
  have n2 := M2'.free 2 rfl 0
  have s1 := M2'.cell 0 rfl 0 rfl
  have hne : w1.heap.size ≠ w.heap.size + 1 := by have := HM1.out.heap 1 rfl; intro e; rw [← e] at this; simp at this
  clear hg M2 M2' t1 f1 l0 l1 HM1
  have M3 := HM2.out.setCell 2 rfl 0 (.int .i64 (wordLen x : Int))
  have hwl := wordLen_le x
  have hw0 : 0 < wordLen x := by omega
  go_wp2_with fail
  generalize hg : w2.setCell ⟨w.heap.size + 1, 0, none⟩ (.int .i64 (wordLen x : Int)) = w3 at M3 ⊢
  have HM3 : Hid (Mem w0 w3 (nextL w1.heap.size w.heap.size 0 k 0 ⟨#[]⟩ (wordLen x) .nilIface x b s k rs)) := M3
  clear hg M3 HM2 n1 n2 s1
  refine wp_region_noPanic ?_
  refine wp_region_keep (S := (fun w' => w'.cell? ⟨w1.heap.size, 0, none⟩ = some (.string x) ∧ w'.cell? ⟨w.heap.size + 1, 0, none⟩ = some (.int .i64 (wordLen x : Int)))) [6] (by kernel_rfl) ?_ (fun hH0 => ?_)
  · exact ⟨HM3.out.cell 0 rfl 0 rfl, HM3.out.cell 2 rfl 0 rfl⟩
  have H0 := Tre.hid HM3.out.drew
  generalize hq : w3.drew = wq0 at H0 hH0 ⊢
  clear hq
  refine lPure (i := 3) (some 27) (v := ?_) (by rfl) (by kernel_rfl) (by kernel_rfl) (by kernel_rfl) (by kernel_rfl) (fun _ _ _ h => h) (by rfl) ?_ (keep_of hH0) ?_
  rotate_left
  · intro w; simp only [List.getElem?_toArray, List.getElem?_cons_succ, List.getElem?_cons_zero, Option.map_some, Option.some.injEq]; (first | (go_simp; done) | (go_simp; with_reducible rfl))
  try simp only [Act.put, List.setIfInBounds_toArray, List.set_cons_zero, List.set_cons_succ]
  refine lTake (i := 0) (some 24) (v := ?_) (by rfl) (by kernel_rfl) (by kernel_rfl) (by kernel_rfl) (by kernel_rfl) (by kernel_rfl) (fun _ _ _ h => h) (by rfl) ?_ hH0 ?_
  rotate_left
  · intro w hSw; (try dsimp only at hSw); simp only [List.getElem?_toArray, List.getElem?_cons_zero, Option.map_some, Option.some.injEq]; (first | (go_simp; done) | (go_simp; with_reducible rfl))
  try simp only [Act.put, List.setIfInBounds_toArray, List.set_cons_zero, List.set_cons_succ]
  refine lTake (i := 1) (some 25) (v := ?_) (by rfl) (by kernel_rfl) (by kernel_rfl) (by kernel_rfl) (by kernel_rfl) (by kernel_rfl) (fun _ _ _ h => h) (by rfl) ?_ hH0 ?_
  rotate_left
  · intro w hSw; (try dsimp only at hSw); simp only [List.getElem?_toArray, List.getElem?_cons_succ, List.getElem?_cons_zero, Option.map_some, Option.some.injEq]; (first | (go_simp; done) | (go_simp; with_reducible rfl))
  try simp only [Act.put, List.setIfInBounds_toArray, List.set_cons_zero, List.set_cons_succ]
  refine lPure (i := 2) (some 26) (v := ?_) (by rfl) (by kernel_rfl) (by kernel_rfl) (by kernel_rfl) (by kernel_rfl) (fun _ _ _ h => h) (by rfl) ?_ (keep_of hH0) ?_
  rotate_left
  · intro w; simp only [List.getElem?_toArray, List.getElem?_cons_succ, List.getElem?_cons_zero, Option.map_some, Option.some.injEq]; (first | (go_simp; done) | (go_simp; with_reducible rfl))
  try simp only [Act.put, List.setIfInBounds_toArray, List.set_cons_zero, List.set_cons_succ]
  refine lOne 4 (by kernel_rfl) (LStep.op (fun K hK => ?_))
  have g0 := H0.out.cell 3 rfl 0 rfl
  have f0 := H0.out.free 3 rfl 0
  have H9 := H0.out.setCell 3 rfl 0 (.int .i64 1)
  go_simp
  generalize hw : wq0.setCell ⟨w.heap.size, 0, none⟩ (.int .i64 1) = wq1 at H9 ⊢
  have H1 := Tre.hid H9
  clear hw H9 g0 f0
  refine hK.out _ _ ?_ (fun hH1 => ?_)
  · exact ⟨H1.out.cell 0 rfl 0 rfl, H1.out.cell 2 rfl 0 rfl⟩
  clear hK K hH0
  try simp only [Act.put, List.setIfInBounds_toArray, List.set_cons_zero, List.set_cons_succ]
  refine lPure (i := 5) (some 28) (v := ?_) (by rfl) (by kernel_rfl) (by kernel_rfl) (by kernel_rfl) (by kernel_rfl) (fun _ _ _ h => h) (by rfl) ?_ (keep_of hH1) ?_
  rotate_left
  · intro w; simp only [List.getElem?_toArray, List.getElem?_cons_succ, List.getElem?_cons_zero, Option.map_some, Option.some.injEq]; (first | (go_simp; done) | (go_simp; with_reducible rfl))
  try simp only [Act.put, List.setIfInBounds_toArray, List.set_cons_zero, List.set_cons_succ]
  refine lOne 6 (by kernel_rfl) (LFall.op (by kernel_rfl) (fun K hK => ?_))
  have g0 := H1.out.cell 3 rfl 3 rfl
  have f0 := H1.out.free 3 rfl 3
  have H9 := H1.out.setCell 3 rfl 3 (.string (x.extract 0 (wordLen x)))
  go_simp
  generalize hw : wq1.setCell ⟨w.heap.size, 3, none⟩ (.string (x.extract 0 (wordLen x))) = wq2 at H9 ⊢
  have H2 := Tre.hid H9
  clear hw H9 g0 f0
  refine hK.out _ _ ?_
  clear hK K hH1
  try simp only [Act.put, List.setIfInBounds_toArray, List.set_cons_zero, List.set_cons_succ]
  refine lDone (by kernel_rfl) ?_
  refine NoPanic.normal ?_
  have M5 : Mem w0 wq2 (nextL w1.heap.size w.heap.size 1 k 0 (x.extract 0 (wordLen x)) (wordLen x) .nilIface x b s k rs) := H2.out
  generalize hyy : x.extract 0 (wordLen x) = y at *
  have HY : Hid (y.data.toList = x.data.toList.take (wordLen x)) := by
    show _ = _
    rw [← hyy, extract_take x 0 _ hwl]; simp
  have hys : y.size ≤ 4194304 := by
    have h1 := congrArg List.length HY.out
    have h2 : y.size = y.data.toList.length := rfl
    simp at h1
    omega
  have HM5 := Tre.hid M5
  have y1 := M5.cell 3 rfl 3 rfl
  have k1 := M5.cell 3 rfl 0 rfl
  have kf := M5.free 3 rfl 0
  have n1 := M5.cell 2 rfl 0 rfl
  clear H2 M5 hyy
  cases hkb : isKey y
  · have HKB := Tre.hid hkb
    clear hkb
    have HDN := Tre.hid (nextS_word hw.1 hw.2 HY.out 1 (by rw [HKB.out]; rfl))
    go_wp2_with fail
    refine (isKey_any y _ (by omega) (HMX.out.below HM5.out.below)).mono ?_
    rintro e w' ⟨rfl, rfl⟩
    rw [HKB.out]
    go_wp2_with fail
    refine wp_region_noPanic ?_
    refine wp_region_keep (S := (fun w' => (w'.cell? ⟨w.heap.size, 0, none⟩ = some (.int .i64 1) ∧ w'.cell? ⟨w.heap.size, 1, none⟩ = some (.int .i64 k) ∧ w'.cell? ⟨w.heap.size, 2, none⟩ = some (.int .i64 0) ∧ w'.cell? ⟨w.heap.size, 3, none⟩ = some (.string y)) ∧ w'.cell? ⟨w.heap.size + 1, 0, none⟩ = some (.int .i64 (wordLen x : Int)))) [3, 4] (by kernel_rfl) ?_ (fun hH0 => ?_)
    · exact ⟨⟨HM5.out.cell 3 rfl 0 rfl, HM5.out.cell 3 rfl 1 rfl, HM5.out.cell 3 rfl 2 rfl, HM5.out.cell 3 rfl 3 rfl⟩, HM5.out.cell 2 rfl 0 rfl⟩
    have H0 := Tre.hid HM5.out.drew
    generalize hq : wq2.drew = wq0 at H0 hH0 ⊢
    clear hq
    refine lTake (i := 0) (some 38) (v := ?_) (by rfl) (by kernel_rfl) (by kernel_rfl) (by kernel_rfl) (by kernel_rfl) (by kernel_rfl) (fun _ _ _ h => h) (by rfl) ?_ hH0 ?_
    rotate_left
    · intro w hSw; (try dsimp only at hSw); simp only [List.getElem?_toArray, List.getElem?_cons_zero, Option.map_some, Option.some.injEq]; (first | (go_simp; done) | (go_simp; with_reducible rfl))
    try simp only [Act.put, List.setIfInBounds_toArray, List.set_cons_zero, List.set_cons_succ]
    refine lTake (i := 1) (some 39) (v := ?_) (by rfl) (by kernel_rfl) (by kernel_rfl) (by kernel_rfl) (by kernel_rfl) (by kernel_rfl) (fun _ _ _ h => h) (by rfl) ?_ hH0 ?_
    rotate_left
    · intro w hSw; (try dsimp only at hSw); simp only [List.getElem?_toArray, List.getElem?_cons_succ, List.getElem?_cons_zero, Option.map_some, Option.some.injEq]; (first | (go_simp; done) | (go_simp; with_reducible rfl))
    try simp only [Act.put, List.setIfInBounds_toArray, List.set_cons_zero, List.set_cons_succ]
    refine lOne 2 (by kernel_rfl) (LStep.op (fun K hK => ?_))
    have g0 := H0.out.cell 3 rfl 0 rfl
    have g1 := H0.out.cell 3 rfl 1 rfl
    have g2 := H0.out.cell 3 rfl 2 rfl
    have g3 := H0.out.cell 3 rfl 3 rfl
    have f0 := H0.out.free 3 rfl 0
    have f1 := H0.out.free 3 rfl 1
    have f2 := H0.out.free 3 rfl 2
    have f3 := H0.out.free 3 rfl 3
    have H9 := ((((H0.out.setCell 3 rfl 0 (.int .i64 1)).setCell 3 rfl 1 (.int .i64 k)).setCell 3 rfl 2 (.int .i64 0)).setCell 3 rfl 3 (.string y))
    go_simp
    generalize hw : ((((wq0.setCell ⟨w.heap.size, 0, none⟩ (.int .i64 1)).setCell ⟨w.heap.size, 1, none⟩ (.int .i64 k)).setCell ⟨w.heap.size, 2, none⟩ (.int .i64 0)).setCell ⟨w.heap.size, 3, none⟩ (.string y)) = wq1 at H9 ⊢
    have H1 := Tre.hid H9
    clear hw H9 g0 g1 g2 g3 f0 f1 f2 f3
    refine hK.out _ _ ?_ (fun hH1 => ?_)
    · exact ⟨⟨H1.out.cell 3 rfl 0 rfl, H1.out.cell 3 rfl 1 rfl, H1.out.cell 3 rfl 2 rfl, H1.out.cell 3 rfl 3 rfl⟩, H1.out.cell 2 rfl 0 rfl⟩
    clear hK K hH0
    try simp only [Act.put, List.setIfInBounds_toArray, List.set_cons_zero, List.set_cons_succ]
    refine lOne 3 (by kernel_rfl) (LFall.op (by kernel_rfl) (fun K hK => ?_))
    have g0 := H1.out.cell 2 rfl 0 rfl
    have f0 := H1.out.free 2 rfl 0
    have H9 := H1.out.setCell 2 rfl 0 (.int .i64 (wordLen x : Int))
    go_simp
    generalize hw : wq1.setCell ⟨w.heap.size + 1, 0, none⟩ (.int .i64 (wordLen x : Int)) = wq2 at H9 ⊢
    have H2 := Tre.hid H9
    clear hw H9 g0 f0
    refine hK.out _ _ ?_
    clear hK K hH1
    try simp only [Act.put, List.setIfInBounds_toArray, List.set_cons_zero, List.set_cons_succ]
    refine lOne 4 (by kernel_rfl) (LFall.op (by kernel_rfl) (fun K hK => ?_))
    have g0 := H2.out.cell 1 rfl 0 rfl
    have f0 := H2.out.free 1 rfl 0
    have H9 := H2.out.setCell 1 rfl 0 .nilIface
    go_simp
    generalize hw : wq2.setCell ⟨w.heap.size + 1 + 1, 0, none⟩ .nilIface = wq3 at H9 ⊢
    have H3 := Tre.hid H9
    clear hw H9 g0 f0
    refine hK.out _ _ ?_
    clear hK K
    try simp only [Act.put, List.setIfInBounds_toArray, List.set_cons_zero, List.set_cons_succ]
    refine lDone (by kernel_rfl) ?_
    refine NoPanic.normal ?_
    go_wp2_with fail
    have H9 : Mem w0 wq3 (nextL w1.heap.size w.heap.size 1 k 0 y (wordLen x : Int) .nilIface x b s k rs) := H3.out
    refine bodyPostM_ret (next_results _ w.heap.size 1 k 0 (wordLen x : Int) y .nilIface _ rfl rfl rfl (H9.heap 3 rfl) (H9.heap 2 rfl) (H9.heap 1 rfl)) rfl ?_
    exact .inl ⟨⟨1, 0, 0, y.data.toList⟩, wordLen x, y, HDN.out, rfl, rfl, ((((H9.del 0).del 0).del 0).del 0)⟩
  · have HKB := Tre.hid hkb
    clear hkb
    have HDN := Tre.hid (nextS_word hw.1 hw.2 HY.out 2 (by rw [HKB.out]; rfl))
    go_wp2_with fail
    refine (isKey_any y _ (by omega) (HMX.out.below HM5.out.below)).mono ?_
    rintro e w' ⟨rfl, rfl⟩
    rw [HKB.out]
    go_wp2_with fail
    have M6 := HM5.out.setCell 3 rfl 0 (.int .i64 2)
    generalize hg : wq2.setCell ⟨w.heap.size, 0, none⟩ (.int .i64 2) = w6 at M6 ⊢
    have HM6 : Hid (Mem w0 w6 (nextL w1.heap.size w.heap.size 2 k 0 y (wordLen x) .nilIface x b s k rs)) := M6
    clear hg M6 y1 k1 kf n1
    refine wp_region_noPanic ?_
    refine wp_region_keep (S := (fun w' => (w'.cell? ⟨w.heap.size, 0, none⟩ = some (.int .i64 2) ∧ w'.cell? ⟨w.heap.size, 1, none⟩ = some (.int .i64 k) ∧ w'.cell? ⟨w.heap.size, 2, none⟩ = some (.int .i64 0) ∧ w'.cell? ⟨w.heap.size, 3, none⟩ = some (.string y)) ∧ w'.cell? ⟨w.heap.size + 1, 0, none⟩ = some (.int .i64 (wordLen x : Int)))) [3, 4] (by kernel_rfl) ?_ (fun hH0 => ?_)
    · exact ⟨⟨HM6.out.cell 3 rfl 0 rfl, HM6.out.cell 3 rfl 1 rfl, HM6.out.cell 3 rfl 2 rfl, HM6.out.cell 3 rfl 3 rfl⟩, HM6.out.cell 2 rfl 0 rfl⟩
    have H0 := Tre.hid HM6.out.drew
    generalize hq : w6.drew = wq0 at H0 hH0 ⊢
    clear hq
    refine lTake (i := 0) (some 38) (v := ?_) (by rfl) (by kernel_rfl) (by kernel_rfl) (by kernel_rfl) (by kernel_rfl) (by kernel_rfl) (fun _ _ _ h => h) (by rfl) ?_ hH0 ?_
    rotate_left
    · intro w hSw; (try dsimp only at hSw); simp only [List.getElem?_toArray, List.getElem?_cons_zero, Option.map_some, Option.some.injEq]; (first | (go_simp; done) | (go_simp; with_reducible rfl))
    try simp only [Act.put, List.setIfInBounds_toArray, List.set_cons_zero, List.set_cons_succ]
    refine lTake (i := 1) (some 39) (v := ?_) (by rfl) (by kernel_rfl) (by kernel_rfl) (by kernel_rfl) (by kernel_rfl) (by kernel_rfl) (fun _ _ _ h => h) (by rfl) ?_ hH0 ?_
    rotate_left
    · intro w hSw; (try dsimp only at hSw); simp only [List.getElem?_toArray, List.getElem?_cons_succ, List.getElem?_cons_zero, Option.map_some, Option.some.injEq]; (first | (go_simp; done) | (go_simp; with_reducible rfl))
    try simp only [Act.put, List.setIfInBounds_toArray, List.set_cons_zero, List.set_cons_succ]
    refine lOne 2 (by kernel_rfl) (LStep.op (fun K hK => ?_))
    have g0 := H0.out.cell 3 rfl 0 rfl
    have g1 := H0.out.cell 3 rfl 1 rfl
    have g2 := H0.out.cell 3 rfl 2 rfl
    have g3 := H0.out.cell 3 rfl 3 rfl
    have f0 := H0.out.free 3 rfl 0
    have f1 := H0.out.free 3 rfl 1
    have f2 := H0.out.free 3 rfl 2
    have f3 := H0.out.free 3 rfl 3
    have H9 := ((((H0.out.setCell 3 rfl 0 (.int .i64 2)).setCell 3 rfl 1 (.int .i64 k)).setCell 3 rfl 2 (.int .i64 0)).setCell 3 rfl 3 (.string y))
    go_simp
    generalize hw : ((((wq0.setCell ⟨w.heap.size, 0, none⟩ (.int .i64 2)).setCell ⟨w.heap.size, 1, none⟩ (.int .i64 k)).setCell ⟨w.heap.size, 2, none⟩ (.int .i64 0)).setCell ⟨w.heap.size, 3, none⟩ (.string y)) = wq1 at H9 ⊢
    have H1 := Tre.hid H9
    clear hw H9 g0 g1 g2 g3 f0 f1 f2 f3
    refine hK.out _ _ ?_ (fun hH1 => ?_)
    · exact ⟨⟨H1.out.cell 3 rfl 0 rfl, H1.out.cell 3 rfl 1 rfl, H1.out.cell 3 rfl 2 rfl, H1.out.cell 3 rfl 3 rfl⟩, H1.out.cell 2 rfl 0 rfl⟩
    clear hK K hH0
    try simp only [Act.put, List.setIfInBounds_toArray, List.set_cons_zero, List.set_cons_succ]
    refine lOne 3 (by kernel_rfl) (LFall.op (by kernel_rfl) (fun K hK => ?_))
    have g0 := H1.out.cell 2 rfl 0 rfl
    have f0 := H1.out.free 2 rfl 0
    have H9 := H1.out.setCell 2 rfl 0 (.int .i64 (wordLen x : Int))
    go_simp
    generalize hw : wq1.setCell ⟨w.heap.size + 1, 0, none⟩ (.int .i64 (wordLen x : Int)) = wq2 at H9 ⊢
    have H2 := Tre.hid H9
    clear hw H9 g0 f0
    refine hK.out _ _ ?_
    clear hK K hH1
    try simp only [Act.put, List.setIfInBounds_toArray, List.set_cons_zero, List.set_cons_succ]
    refine lOne 4 (by kernel_rfl) (LFall.op (by kernel_rfl) (fun K hK => ?_))
    have g0 := H2.out.cell 1 rfl 0 rfl
    have f0 := H2.out.free 1 rfl 0
    have H9 := H2.out.setCell 1 rfl 0 .nilIface
    go_simp
    generalize hw : wq2.setCell ⟨w.heap.size + 1 + 1, 0, none⟩ .nilIface = wq3 at H9 ⊢
    have H3 := Tre.hid H9
    clear hw H9 g0 f0
    refine hK.out _ _ ?_
    clear hK K
    try simp only [Act.put, List.setIfInBounds_toArray, List.set_cons_zero, List.set_cons_succ]
    refine lDone (by kernel_rfl) ?_
    refine NoPanic.normal ?_
    go_wp2_with fail
    have H9 : Mem w0 wq3 (nextL w1.heap.size w.heap.size 2 k 0 y (wordLen x : Int) .nilIface x b s k rs) := H3.out
    refine bodyPostM_ret (next_results _ w.heap.size 2 k 0 (wordLen x : Int) y .nilIface _ rfl rfl rfl (H9.heap 3 rfl) (H9.heap 2 rfl) (H9.heap 1 rfl)) rfl ?_
    exact .inl ⟨⟨2, 0, 0, y.data.toList⟩, wordLen x, y, HDN.out, rfl, rfl, ((((H9.del 0).del 0).del 0).del 0)⟩
end Go.Proofs.YtcpcheengfgpaaaGreatDoor.lex
