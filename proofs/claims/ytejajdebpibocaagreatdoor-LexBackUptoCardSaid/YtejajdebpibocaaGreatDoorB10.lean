/- (*lexer).next: a text in quotes. strings.FieldsSeq for a caller that holds resources. -/
import Derived.Test.YtejajdebpibocaaGreatDoorB07
import Derived.Test.YtejajdebpibocaaGreatDoorB01
import Derived.Deep.RegionHeld3
import Derived.Test.YtejajdebpibocaaGreatDoorB00
import Derived.RangeFuncFrom
set_option linter.unusedVariables false
namespace Go.Proofs.YtejajdebpibocaaGreatDoor.lex
open Go.RowKit Go.Tre
theorem nextS_quote {x : ByteArray} (h0 : 0 < x.size) (hw : wordLen x = 0) (h : x[0] = 34) : nextS x.data.toList = (quotedS (x.extract 1 x.size).data.toList).map fun p => (⟨4, 0, 0, p.1⟩, p.2 + 1) := by
  have hw' : ¬ wordFrom true x.data.toList > 0 := by have : wordFrom true x.data.toList = 0 := hw; omega
  have hd := drop_at x 0 h0
  rw [List.drop_zero] at hd
  have hz : (x.extract 1 x.size).data.toList = x.data.toList.drop (0 + 1) := extract_list x 1
  rw [hz]
  unfold nextS
  rw [if_neg hw', hd, h]
  rfl
set_option maxRecDepth 100000 in
set_option maxHeartbeats 8000000 in
theorem next_quote_none (w0 : World) (rs : List Res) (b : Nat) (s x : ByteArray) (k : Nat) (w : World) (h : Mem w0 w (lexR b s k :: rs)) (hk : k ≤ s.size) (hs : s.size ≤ 4194304) (hx : x.data.toList = s.data.toList.drop k) (hm : MaxAt w0) (h0 : 0 < x.size) (hw : wordLen x = 0) (h34 : x[0] = 34) (hq : quotedS (x.extract 1 x.size).data.toList = none) :
    Calls Tryz.prog 21 #[.pointer (some ⟨b, 0, none⟩)] w (NextPost w0 rs b s k (nextS x.data.toList)) := by
  have HM0 := Tre.hid (((h.allocR (tokV 0 0 0 ⟨#[]⟩) 29).allocR #[.int .i64 0] 3).allocR #[.nilIface] 36)
  have HX := Tre.hid hx
  have hxs : x.size ≤ s.size := by
    have := congrArg List.length hx
    simp at this
    omega
  clear h hx
  have HMX := Tre.hid hm
  have HW0 := Tre.hid hw
  have HD0 := Tre.hid (drop_at x 0 h0)
  have hc255 := x[0].toNat_lt
  have e39 : ((x[0].toNat : Int) == 39) = false := by rw [h34]; rfl
  have e34 : ((x[0].toNat : Int) == 34) = true := by rw [h34]; rfl
  have e48 : (x[0].toNat : Int) < 48 := by rw [h34]; decide
  have HZS : Hid ((x.extract 1 x.size).size + 1 = x.size) := by
    show _ = _
    rw [ByteArray.size_extract]; omega
  have HDN := Tre.hid (nextS_quote h0 HW0.out h34)
  have HDM : Hid (nextS x.data.toList = none) := by show _ = _; rw [HDN.out, hq]; rfl
  have HQ := Tre.hid hq
  clear HDN hq h34
  clear hm hw
  refine calls_marks Tryz.func21 rfl ?_
  simp only [Tryz.ntmps21, List.size_toArray, List.length_cons, List.length_nil, Nat.reduceAdd, Nat.reduceSub, Array.replicate_succ, Array.replicate_zero, List.push_toArray, List.append_toArray, List.nil_append, List.cons_append]
  go_wp2_with fail
  refine (rest_is b s k x _ (lexAt HM0.out 3 rfl) hk (by omega) HX.out).mono ?_
  rintro e w1 ⟨rfl, mq⟩
  have M1 := HM0.out.quiet mq
  simp only [World.size_alloc] at M1
  have HM1 := Tre.hid M1
  obtain ⟨l0, l1⟩ := M1.two 3 rfl
  have hbl := World.block_lt_of_cell? w1 _ l0
  have htl := (Array.getElem?_eq_some_iff.1 (M1.heap 2 rfl)).1
  have t1 : w1.cell? ⟨w.heap.size, 1, none⟩ = some (.int .i64 0) := M1.cell 2 rfl 1 rfl
  have f1 := M1.free 2 rfl 1
  clear mq M1 HM0
  simp only at hbl
  go_wp2_with fail
  refine (word x _ (by omega)).mono ?_
  rintro e w2 ⟨rfl, rfl⟩
  rw [HW0.out, show ((0 : Nat) : Int) = 0 from rfl]
  have M2 := (HM1.out.setCell 2 rfl 1 (.int .i64 (k : Int))).allocR #[.string x] 9
  rw [World.size_setCell] at M2
  generalize hg : ((w1.setCell ⟨w.heap.size, 1, none⟩ (.int .i64 (k : Int))).alloc (.cells #[.string x] 9)) = w2 at M2 ⊢
  have M2' : Mem w0 w2 (nextL w1.heap.size w.heap.size 0 k 0 ⟨#[]⟩ 0 .nilIface x b s k rs) := M2
  have HM2 := Tre.hid M2'
  have n1 := M2'.cell 2 rfl 0 rfl
  have n2 := M2'.free 2 rfl 0
  have s1 := M2'.cell 0 rfl 0 rfl
  have hne : w1.heap.size ≠ w.heap.size + 1 := by have := HM1.out.heap 1 rfl; intro e; rw [← e] at this; simp at this
  clear hg M2 M2' t1 f1 l0 l1 HM1
  go_wp2_with fail
  have M3 := HM2.out.setCell 2 rfl 0 (.int .i64 0)
  generalize hg : w2.setCell ⟨w.heap.size + 1, 0, none⟩ (.int .i64 0) = w3 at M3 ⊢
  have HM3 : Hid (Mem w0 w3 (nextL w1.heap.size w.heap.size 0 k 0 ⟨#[]⟩ 0 .nilIface x b s k rs)) := M3
  clear hg M3 HM2 n1 n2 s1
  refine (quoted (x.extract 1 x.size) _ (by have := HZS.out; omega)).mono ?_
  rintro e w4 ⟨rfl, hb⟩
  have HM4 := Tre.hid (HM3.out.quiet hb)
  clear hb HM3
  rw [HQ.out]
  unfold quotedV
  go_wp2_with fail
  refine wp_region_noPanic ?_
  refine wp_region_keep (S := (fun w' => (w'.cell? ⟨w.heap.size, 0, none⟩ = some (.int .i64 0) ∧ w'.cell? ⟨w.heap.size, 1, none⟩ = some (.int .i64 k) ∧ w'.cell? ⟨w.heap.size, 2, none⟩ = some (.int .i64 0) ∧ w'.cell? ⟨w.heap.size, 3, none⟩ = some (.string ⟨#[]⟩)) ∧ w'.cell? ⟨w.heap.size + 1, 0, none⟩ = some (.int .i64 0))) [3, 4, 5] (by kernel_rfl) ?_ (fun hH0 => ?_)
  · exact ⟨⟨HM4.out.cell 3 rfl 0 rfl, HM4.out.cell 3 rfl 1 rfl, HM4.out.cell 3 rfl 2 rfl, HM4.out.cell 3 rfl 3 rfl⟩, HM4.out.cell 2 rfl 0 rfl⟩
  have H0 := Tre.hid HM4.out.drew
  generalize hq : w4.drew = wq0 at H0 hH0 ⊢
  clear hq
  refine lPure (i := 1) (some 112) (v := ?_) (by rfl) (by kernel_rfl) (by kernel_rfl) (by kernel_rfl) (by kernel_rfl) (fun _ _ _ h => h) (by rfl) ?_ (keep_of hH0) ?_
  rotate_left
  · intro w; simp only [List.getElem?_toArray, List.getElem?_cons_succ, List.getElem?_cons_zero, Option.map_some, Option.some.injEq]; (first | (go_simp; done) | (go_simp; with_reducible rfl))
  try simp only [Act.put, List.setIfInBounds_toArray, List.set_cons_zero, List.set_cons_succ]
  refine lTake (i := 0) (some 111) (v := ?_) (by rfl) (by kernel_rfl) (by kernel_rfl) (by kernel_rfl) (by kernel_rfl) (by kernel_rfl) (fun _ _ _ h => h) (by rfl) ?_ hH0 ?_
  rotate_left
  · intro w hSw; (try dsimp only at hSw); simp only [List.getElem?_toArray, List.getElem?_cons_zero, Option.map_some, Option.some.injEq]; (first | (go_simp; done) | (go_simp; with_reducible rfl))
  try simp only [Act.put, List.setIfInBounds_toArray, List.set_cons_zero, List.set_cons_succ]
  refine lOne 2 (by kernel_rfl) (LStep.op (fun K hK => ?_))
  go_simp
  refine (fail b s k wq0 (lexAt H0.out 4 rfl)).mono ?_
  rintro e w' ⟨rfl, rfl⟩
  have H9 := errNew (k := k) H0.out
  generalize hev : wq0.heap.size = ev at H9 ⊢
  generalize hw : wq0.alloc (.cells #[.int .i64 (k : Int), .int .i64 5] 43) = wq1 at H9 ⊢
  have H1 := Tre.hid H9
  clear H9 hw hev
  (try dsimp only)
  refine hK.out _ _ ?_ (fun hH1 => ?_)
  · exact ⟨⟨H1.out.cell 4 rfl 0 rfl, H1.out.cell 4 rfl 1 rfl, H1.out.cell 4 rfl 2 rfl, H1.out.cell 4 rfl 3 rfl⟩, H1.out.cell 3 rfl 0 rfl⟩
  clear hK K hH0
  try simp only [Act.put, List.setIfInBounds_toArray, List.set_cons_zero, List.set_cons_succ]
  refine lOne 3 (by kernel_rfl) (LFall.op (by kernel_rfl) (fun K hK => ?_))
  have g0 := H1.out.cell 4 rfl 0 rfl
  have g1 := H1.out.cell 4 rfl 1 rfl
  have g2 := H1.out.cell 4 rfl 2 rfl
  have g3 := H1.out.cell 4 rfl 3 rfl
  have f0 := H1.out.free 4 rfl 0
  have f1 := H1.out.free 4 rfl 1
  have f2 := H1.out.free 4 rfl 2
  have f3 := H1.out.free 4 rfl 3
  have H9 := ((((H1.out.setCell 4 rfl 0 (.int .i64 0)).setCell 4 rfl 1 (.int .i64 k)).setCell 4 rfl 2 (.int .i64 0)).setCell 4 rfl 3 (.string ⟨#[]⟩))
  go_simp
  generalize hw : ((((wq1.setCell ⟨w.heap.size, 0, none⟩ (.int .i64 0)).setCell ⟨w.heap.size, 1, none⟩ (.int .i64 k)).setCell ⟨w.heap.size, 2, none⟩ (.int .i64 0)).setCell ⟨w.heap.size, 3, none⟩ (.string ⟨#[]⟩)) = wq2 at H9 ⊢
  have H2 := Tre.hid H9
  clear hw H9 g0 g1 g2 g3 f0 f1 f2 f3
  refine hK.out _ _ ?_
  clear hK K hH1
  try simp only [Act.put, List.setIfInBounds_toArray, List.set_cons_zero, List.set_cons_succ]
  refine lOne 4 (by kernel_rfl) (LFall.op (by kernel_rfl) (fun K hK => ?_))
  have g0 := H2.out.cell 3 rfl 0 rfl
  have f0 := H2.out.free 3 rfl 0
  have H9 := H2.out.setCell 3 rfl 0 (.int .i64 0)
  go_simp
  generalize hw : wq2.setCell ⟨w.heap.size + 1, 0, none⟩ (.int .i64 0) = wq3 at H9 ⊢
  have H3 := Tre.hid H9
  clear hw H9 g0 f0
  refine hK.out _ _ ?_
  clear hK K
  try simp only [Act.put, List.setIfInBounds_toArray, List.set_cons_zero, List.set_cons_succ]
  refine lOne 5 (by kernel_rfl) (LFall.op (by kernel_rfl) (fun K hK => ?_))
  have g0 := H3.out.cell 2 rfl 0 rfl
  have f0 := H3.out.free 2 rfl 0
  have H9 := H3.out.setCell 2 rfl 0 (.iface 39 (.pointer (some ⟨ev, 0, none⟩)))
  go_simp
  generalize hw : wq3.setCell ⟨w.heap.size + 1 + 1, 0, none⟩ (.iface 39 (.pointer (some ⟨ev, 0, none⟩))) = wq4 at H9 ⊢
  have H4 := Tre.hid H9
  clear hw H9 g0 f0
  refine hK.out _ _ ?_
  clear hK K
  try simp only [Act.put, List.setIfInBounds_toArray, List.set_cons_zero, List.set_cons_succ]
  refine lDone (by kernel_rfl) ?_
  refine NoPanic.normal ?_
  go_wp2_with fail
  have H9 : Mem w0 wq4 (errR [ev] (.iface 39 (.pointer (some ⟨ev, 0, none⟩))) k 5 :: nextL w1.heap.size w.heap.size 0 k 0 ⟨#[]⟩ 0 (.iface 39 (.pointer (some ⟨ev, 0, none⟩))) x b s k rs) := H4.out
  refine bodyPostM_ret (next_results _ w.heap.size 0 k 0 0 ⟨#[]⟩ (.iface 39 (.pointer (some ⟨ev, 0, none⟩))) _ rfl rfl rfl (H9.heap 4 rfl) (H9.heap 3 rfl) (H9.heap 2 rfl)) rfl ?_
  exact .inr ⟨HDM.out, _, _, _, _, _, _, [ev], rfl, ((((H9.del 1).del 1).del 1).del 1)⟩
set_option maxRecDepth 100000 in
set_option maxHeartbeats 8000000 in
theorem next_quote_some (w0 : World) (rs : List Res) (b : Nat) (s x : ByteArray) (k : Nat) (w : World) (h : Mem w0 w (lexR b s k :: rs)) (hk : k ≤ s.size) (hs : s.size ≤ 4194304) (hx : x.data.toList = s.data.toList.drop k) (hm : MaxAt w0) (h0 : 0 < x.size) (hw : wordLen x = 0) (h34 : x[0] = 34) (p : List UInt8 × Nat) (hq : quotedS (x.extract 1 x.size).data.toList = some p) :
    Calls Tryz.prog 21 #[.pointer (some ⟨b, 0, none⟩)] w (NextPost w0 rs b s k (nextS x.data.toList)) := by
  have HM0 := Tre.hid (((h.allocR (tokV 0 0 0 ⟨#[]⟩) 29).allocR #[.int .i64 0] 3).allocR #[.nilIface] 36)
  have HX := Tre.hid hx
  have hxs : x.size ≤ s.size := by
    have := congrArg List.length hx
    simp at this
    omega
  clear h hx
  have HMX := Tre.hid hm
  have HW0 := Tre.hid hw
  have HD0 := Tre.hid (drop_at x 0 h0)
  have hc255 := x[0].toNat_lt
  have e39 : ((x[0].toNat : Int) == 39) = false := by rw [h34]; rfl
  have e34 : ((x[0].toNat : Int) == 34) = true := by rw [h34]; rfl
  have e48 : (x[0].toNat : Int) < 48 := by rw [h34]; decide
  have HZS : Hid ((x.extract 1 x.size).size + 1 = x.size) := by
    show _ = _
    rw [ByteArray.size_extract]; omega
  have HDN := Tre.hid (nextS_quote h0 HW0.out h34)
  have HDM : Hid (nextS x.data.toList = some (⟨4, 0, 0, p.1⟩, p.2 + 1)) := by show _ = _; rw [HDN.out, hq]; rfl
  have HQ := Tre.hid hq
  have hpl := quotedS_len _ _ (Nat.le_refl _) p hq
  have hps : p.2 ≤ 4194304 := by have h1 := hpl.2; have h2 := HZS.out; have h3 : (x.extract 1 x.size).size = (x.extract 1 x.size).data.toList.length := rfl; omega
  clear HDN hq h34 hpl
  clear hm hw
  refine calls_marks Tryz.func21 rfl ?_
  simp only [Tryz.ntmps21, List.size_toArray, List.length_cons, List.length_nil, Nat.reduceAdd, Nat.reduceSub, Array.replicate_succ, Array.replicate_zero, List.push_toArray, List.append_toArray, List.nil_append, List.cons_append]
  go_wp2_with fail
  refine (rest_is b s k x _ (lexAt HM0.out 3 rfl) hk (by omega) HX.out).mono ?_
  rintro e w1 ⟨rfl, mq⟩
  have M1 := HM0.out.quiet mq
  simp only [World.size_alloc] at M1
  have HM1 := Tre.hid M1
  obtain ⟨l0, l1⟩ := M1.two 3 rfl
  have hbl := World.block_lt_of_cell? w1 _ l0
  have htl := (Array.getElem?_eq_some_iff.1 (M1.heap 2 rfl)).1
  have t1 : w1.cell? ⟨w.heap.size, 1, none⟩ = some (.int .i64 0) := M1.cell 2 rfl 1 rfl
  have f1 := M1.free 2 rfl 1
  clear mq M1 HM0
  simp only at hbl
  go_wp2_with fail
  refine (word x _ (by omega)).mono ?_
  rintro e w2 ⟨rfl, rfl⟩
  rw [HW0.out, show ((0 : Nat) : Int) = 0 from rfl]
  have M2 := (HM1.out.setCell 2 rfl 1 (.int .i64 (k : Int))).allocR #[.string x] 9
  rw [World.size_setCell] at M2
  generalize hg : ((w1.setCell ⟨w.heap.size, 1, none⟩ (.int .i64 (k : Int))).alloc (.cells #[.string x] 9)) = w2 at M2 ⊢
  have M2' : Mem w0 w2 (nextL w1.heap.size w.heap.size 0 k 0 ⟨#[]⟩ 0 .nilIface x b s k rs) := M2
  have HM2 := Tre.hid M2'
  have n1 := M2'.cell 2 rfl 0 rfl
  have n2 := M2'.free 2 rfl 0
  have s1 := M2'.cell 0 rfl 0 rfl
  have hne : w1.heap.size ≠ w.heap.size + 1 := by have := HM1.out.heap 1 rfl; intro e; rw [← e] at this; simp at this
  clear hg M2 M2' t1 f1 l0 l1 HM1
  go_wp2_with fail
  have M3 := HM2.out.setCell 2 rfl 0 (.int .i64 0)
  generalize hg : w2.setCell ⟨w.heap.size + 1, 0, none⟩ (.int .i64 0) = w3 at M3 ⊢
  have HM3 : Hid (Mem w0 w3 (nextL w1.heap.size w.heap.size 0 k 0 ⟨#[]⟩ 0 .nilIface x b s k rs)) := M3
  clear hg M3 HM2 n1 n2 s1
  refine (quoted (x.extract 1 x.size) _ (by have := HZS.out; omega)).mono ?_
  rintro e w4 ⟨rfl, hb⟩
  have HM4 := Tre.hid (HM3.out.quiet hb)
  clear hb HM3
  rw [HQ.out]
  unfold quotedV
  have t0 := HM4.out.cell 3 rfl 0 rfl
  have f0 := HM4.out.free 3 rfl 0
  have t1 := HM4.out.cell 3 rfl 1 rfl
  have f1 := HM4.out.free 3 rfl 1
  have t2 := HM4.out.cell 3 rfl 2 rfl
  have f2 := HM4.out.free 3 rfl 2
  have t3 := HM4.out.cell 3 rfl 3 rfl
  have f3 := HM4.out.free 3 rfl 3
  have n1 := HM4.out.cell 2 rfl 0 rfl
  have n2 := HM4.out.free 2 rfl 0
  have v1 := HM4.out.cell 1 rfl 0 rfl
  have v2 := HM4.out.free 1 rfl 0
  have s1 := HM4.out.cell 0 rfl 0 rfl
  go_wp2_with fail
  have H9 : Mem w0 _ (nextL w1.heap.size w.heap.size 4 k 0 ⟨p.1.toArray⟩ ((p.2 : Int) + 1) .nilIface x b s k rs) := ((((((((HM4.out.setCell 3 rfl 0 (.int .i64 4)).setCell 3 rfl 3 (.string ⟨p.1.toArray⟩)).setCell 3 rfl 0 (.int .i64 4)).setCell 3 rfl 1 (.int .i64 k)).setCell 3 rfl 2 (.int .i64 0)).setCell 3 rfl 3 (.string ⟨p.1.toArray⟩)).setCell 2 rfl 0 (.int .i64 ((p.2 : Int) + 1))).setCell 1 rfl 0 .nilIface)
  refine bodyPostM_ret (next_results _ w.heap.size 4 k 0 ((p.2 : Int) + 1) ⟨p.1.toArray⟩ .nilIface _ rfl rfl rfl (H9.heap 3 rfl) (H9.heap 2 rfl) (H9.heap 1 rfl)) rfl ?_
  exact .inl ⟨⟨4, 0, 0, p.1⟩, p.2 + 1, ⟨p.1.toArray⟩, HDM.out, by simp, rfl, ((((H9.del 0).del 0).del 0).del 0)⟩
end Go.Proofs.YtejajdebpibocaaGreatDoor.lex
namespace Go.Tre
open Go.RowKit
/-- what is held, all of it in blocks below B -/
structure MemB (B : Nat) (w0 w : World) (rs : List Res) : Prop where
  mem : Mem w0 w rs
  low : ∀ r ∈ rs, ∀ b, r.own b → b < B
  base : w0.heap.size ≤ B
theorem MemB.grown {B : Nat} {w0 w w' : World} {rs : List Res} {row : Option Nat} (h : MemB B w0 w rs) (hg : w.grownBy w' row) (hr : ∀ r, row = some r → B ≤ r) : MemB B w0 w' rs := by
  have key : ∀ r ∈ rs, ∀ b, r.own b → w'.heap[b]? = w.heap[b]? := fun r hr' b hb => by
    have h1 := h.low r hr' b hb
    refine hg.block b (r.has _ (h.mem.all r hr').1 b hb) (fun e => ?_)
    have := hr b e.symm
    omega
  refine ⟨⟨h.mem.below.grown hg h.mem.size (fun k e => Nat.le_trans h.base (hr k e)), fun r hr' => ⟨r.stable _ _ (h.mem.all r hr').1 (key r hr'), (h.mem.all r hr').2⟩, h.mem.sep⟩, h.low, h.base⟩
theorem MemB.low_same {B : Nat} {w0 w : World} {rs rs' : List Res} (h : MemB B w0 w rs) (e : rs.map (·.own) = rs'.map (·.own)) {r : Res} (hr : r ∈ rs') {b : Nat} (hb : r.own b) : b < B := by
  have h1 : r.own ∈ rs'.map (·.own) := List.mem_map_of_mem hr
  rw [← e] at h1
  obtain ⟨r', hr', e'⟩ := List.mem_map.1 h1
  exact h.low r' hr' b (by rw [e']; exact hb)
theorem MemB.own {β : Type} (B : Nat) (w0 : World) (rs : List Res) : OwnFrom B (fun (_ : β) W => MemB B w0 W rs) := fun _ _ _ _ h hg hr => h.grown hg (fun r e => (hr r e).1)
theorem MemB.of {w0 w : World} {rs : List Res} (h : Mem w0 w rs) : MemB w.heap.size w0 w rs := ⟨h, fun r hr b hb => r.has _ (h.all r hr).1 b hb, h.size⟩
/-- an object that is no cells -/
def objR (D : Nat) (o : Obj) : Res where
  own b := b = D
  P w := w.heap[D]? = some o
  stable w w' h hs := (hs D rfl).trans h
  has w h b hb := by subst hb; exact (Array.getElem?_eq_some_iff.1 h).1
theorem Mem.putObj {w0 w : World} {rs : List Res} {D : Nat} {o : Obj} (h : Mem w0 w rs) (i : Nat) (hi : rs[i]? = some (objR D o)) (o' : Obj) : Mem w0 (w.putObj D o') (rs.set i (objR D o')) :=
  h.set_row i hi (grownBy_putObj' w D o') (fun k e => by cases e; rfl) _ (World.putObj_heap_same (Array.getElem?_eq_some_iff.1 (show w.heap[D]? = some o from h.at_ i hi)).1) (fun b hb => .inl hb)
theorem MemB.withObj {B D : Nat} {w0 w : World} {rs : List Res} {o : Obj} (h : MemB B w0 w rs) (hD : B ≤ D) (ho : w.heap[D]? = some o) : Mem w0 w (objR D o :: rs) :=
  ⟨h.mem.below, fun r hr => by
    rcases List.mem_cons.1 hr with rfl | hr
    · exact ⟨ho, fun b hb => by have e : b = D := hb; have := h.base; omega⟩
    · exact h.mem.all r hr, List.pairwise_cons.2 ⟨fun r hr b hb hb' => by have e : b = D := hb; have := h.low r hr b hb'; omega, h.mem.sep⟩⟩
theorem bodyPostM_ret1 {F : Fence} {n : Nat} {P : Program} {fn : Func} {R : Ending → World → Prop} {a : Act} {w : World} {v : Value} {D : Nat} (hd : a.defers = [{ target := .collected D, args := #[] }]) (hk : w.heap[D]? = some (.deferred (some [])))
    (hr : (results fn a.tmps).run P (w.putObj D (.deferred none)) = .ok v (w.putObj D (.deferred none))) (hR : R (.returned v) (w.putObj D (.deferred none))) : bodyPostM F n P fn R .ret a w := by
  show LeavesInM F n P fn a.tmps R a.defers .returning w
  rw [hd]
  exact ⟨by simp, .inl ⟨D, _, rfl, run_takeDeferred hk, ⟨v, hr, hR⟩⟩⟩
theorem SpaceAt.lt_size {w0 w : World} (h : SpaceAt w0) (hs : w0.heap.size ≤ w.heap.size) : 1 < w.heap.size :=
  Nat.lt_of_lt_of_le (World.block_lt_of_cell? w0 _ (h 0)) hs
end Go.Tre
namespace Go.Proofs.YtejajdebpibocaaGreatDoor.lex
open Go.RowKit Go.Tre Go.Shelf
theorem fieldsSeq (s : ByteArray) (w : World) : Calls Tryz.prog 37 #[.string s] w fun e w' => e = .returned (.func (.func 59) #[] #[.pointer (some ⟨w.heap.size, 0, none⟩)]) ∧ w' = w.alloc (.cells #[.string s] 9) := by
  go_enter Tryz.func37, Tryz.ntmps37
  go_wp2
  go_ret
  exact ⟨rfl, rfl⟩
theorem fields_stops (n : Nat) (hn : 1 ≤ n) (Bs : Nat) (s : ByteArray) (hs : s.size ≤ 4194304) (has : ∀ c ∈ s.data.toList, c.toNat < 128) (w : World) (hB : Bs < w.heap.size) (hg : 1 < w.heap.size) (hc : w.cell? ⟨Bs, 0, none⟩ = some (.string s)) (hsp : SpaceAt w) :
    SeqStopsK Fence.wide n Tryz.prog 59 #[.pointer (some ⟨Bs, 0, none⟩)] (fun x : ByteArray => #[Value.string x]) (Below w.heap.size) (fun ys => ys.map (·.data.toList) = fieldsS [] s.data.toList) (fun pre => ∃ r, pre.map (·.data.toList) ++ r = fieldsS [] s.data.toList) (fieldsS [] s.data.toList).length w := fun l J Jx W hW _ _ hY h0 => by
  refine (fields_in Fence.wide n trivial rfl hn l Bs w.heap.size s hs has J Jx hY W hB hg (cell_below hW hc) (hsp.below hW) h0).mono ?_
  rintro e W' ⟨he, h⟩
  exact ⟨he, h⟩
end Go.Proofs.YtejajdebpibocaaGreatDoor.lex
