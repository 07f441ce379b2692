/- (*lexer).next: a text in quotes. errors.As at the target '**lex.wrong': the model's entries for internal/reflectlite at the types that it meets (after the kit's worked example Toyas). errors.As, errors.as, errors.Join: the walks at '*lex.wrong' and at two errors that are joined. errors.as at two errors that are joined, the first of which is of the target's type. errors.As at whatever the lexer's errors are; errors.Join of two. (*lexer).next, whatever comes. -/
import Derived.Test.YtcpcheengfgpaaaGreatDoorB07
import Derived.Test.YtcpcheengfgpaaaGreatDoorB01
import Derived.Deep.RegionHeld3
import Derived.Test.YtcpcheengfgpaaaGreatDoorB00
import Derived.Test.YtcpcheengfgpaaaGreatDoorRows
import Derived.WalkKit
import Derived.LaidEql
import Derived.Stop.Asserts
import Derived.RowKitTokens
import Derived.Test.YtcpcheengfgpaaaGreatDoorB06
import Derived.Test.YtcpcheengfgpaaaGreatDoorB03
import Derived.Test.YtcpcheengfgpaaaGreatDoorB11
import Derived.Test.YtcpcheengfgpaaaGreatDoorB12
import Derived.Test.YtcpcheengfgpaaaGreatDoorB09
set_option linter.unusedVariables false
namespace Go.Proofs.YtcpcheengfgpaaaGreatDoor.lex
open Go.RowKit Go.Tre
theorem nextS_quote {x : ByteArray} (h0 : 0 < x.size) (hw : wordLen x = 0) (h : x[0] = 34) : nextS x.data.toList = (quotedS (x.extract 1 x.size).data.toList).map fun p => (⟨4, 0, 0, p.1⟩, p.2 + 1) := by
  have hw' : ¬ wordFrom true x.data.toList > 0 := by have : wordFrom true x.data.toList = 0 := hw; omega
  have hd := drop_at x 0 h0
  rw [List.drop_zero] at hd
  have hz : (x.extract 1 x.size).data.toList = x.data.toList.drop (0 + 1) := extract_list x 1
  rw [hz]
  unfold nextS
  rw [if_neg hw', hd, h]
  rfl
set_option maxRecDepth 100000 in
set_option maxHeartbeats 8000000 in
theorem next_quote_none (w0 : World) (rs : List Res) (b : Nat) (s x : ByteArray) (k : Nat) (w : World) (h : Mem w0 w (lexR b s k :: rs)) (hk : k ≤ s.size) (hs : s.size ≤ 4194304) (hx : x.data.toList = s.data.toList.drop k) (hm : MaxAt w0) (h0 : 0 < x.size) (hw : wordLen x = 0) (h34 : x[0] = 34) (hq : quotedS (x.extract 1 x.size).data.toList = none) :
    Calls Tryz.prog 32 #[.pointer (some ⟨b, 0, none⟩)] w (NextPost w0 rs b s k (nextS x.data.toList)) := by
  have HM0 := Tre.hid (((h.allocR (tokV 0 0 0 ⟨#[]⟩) 34).allocR #[.int .i64 0] 3).allocR #[.nilIface] 24)
  have HX := Tre.hid hx
  have hxs : x.size ≤ s.size := by
    have := congrArg List.length hx
    simp at this
    omega
  clear h hx
  have HMX := Tre.hid hm
  have HW0 := Tre.hid hw
  have HD0 := Tre.hid (drop_at x 0 h0)
  have hc255 := x[0].toNat_lt
  have e39 : ((x[0].toNat : Int) == 39) = false := by rw [h34]; rfl
  have e34 : ((x[0].toNat : Int) == 34) = true := by rw [h34]; rfl
  have e48 : (x[0].toNat : Int) < 48 := by rw [h34]; decide
  have HZS : Hid ((x.extract 1 x.size).size + 1 = x.size) := by
    show _ = _
    rw [ByteArray.size_extract]; omega
  have HDN := Tre.hid (nextS_quote h0 HW0.out h34)
  have HDM : Hid (nextS x.data.toList = none) := by show _ = _; rw [HDN.out, hq]; rfl
  have HQ := Tre.hid hq
  clear HDN hq h34
  clear hm hw
  refine calls_marks Tryz.func32 rfl ?_
  simp only [Tryz.ntmps32, List.size_toArray, List.length_cons, List.length_nil, Nat.reduceAdd, Nat.reduceSub, Array.replicate_succ, Array.replicate_zero, List.push_toArray, List.append_toArray, List.nil_append, List.cons_append]
  go_wp2_with fail
  refine (rest_is b s k x _ (lexAt HM0.out 3 rfl) hk (by omega) HX.out).mono ?_
  rintro e w1 ⟨rfl, mq⟩
  have M1 := HM0.out.quiet mq
  simp only [World.size_alloc] at M1
  have HM1 := Tre.hid M1
  obtain ⟨l0, l1⟩ := M1.two 3 rfl
  have hbl := World.block_lt_of_cell? w1 _ l0
  have htl := (Array.getElem?_eq_some_iff.1 (M1.heap 2 rfl)).1
  have t1 : w1.cell? ⟨w.heap.size, 1, none⟩ = some (.int .i64 0) := M1.cell 2 rfl 1 rfl
  have f1 := M1.free 2 rfl 1
  clear mq M1 HM0
  simp only at hbl
  go_wp2_with fail
  refine (word x _ (by omega)).mono ?_
  rintro e w2 ⟨rfl, rfl⟩
  rw [HW0.out, show ((0 : Nat) : Int) = 0 from rfl]
  have M2 := (HM1.out.setCell 2 rfl 1 (.int .i64 (k : Int))).allocR #[.string x] 9
  rw [World.size_setCell] at M2
  generalize hg : ((w1.setCell ⟨w.heap.size, 1, none⟩ (.int .i64 (k : Int))).alloc (.cells #[.string x] 9)) = w2 at M2 ⊢
  have M2' : Mem w0 w2 (nextL w1.heap.size w.heap.size 0 k 0 ⟨#[]⟩ 0 .nilIface x b s k rs) := M2
  have HM2 := Tre.hid M2'
  have n1 := M2'.cell 2 rfl 0 rfl
  have n2 := M2'.free 2 rfl 0
  have s1 := M2'.cell 0 rfl 0 rfl
  have hne : w1.heap.size ≠ w.heap.size + 1 := by have := HM1.out.heap 1 rfl; intro e; rw [← e] at this; simp at this
  clear hg M2 M2' t1 f1 l0 l1 HM1
  go_wp2_with fail
  have M3 := HM2.out.setCell 2 rfl 0 (.int .i64 0)
  generalize hg : w2.setCell ⟨w.heap.size + 1, 0, none⟩ (.int .i64 0) = w3 at M3 ⊢
  have HM3 : Hid (Mem w0 w3 (nextL w1.heap.size w.heap.size 0 k 0 ⟨#[]⟩ 0 .nilIface x b s k rs)) := M3
  clear hg M3 HM2 n1 n2 s1
  refine (quoted (x.extract 1 x.size) _ (by have := HZS.out; omega)).mono ?_
  rintro e w4 ⟨rfl, hb⟩
  have HM4 := Tre.hid (HM3.out.quiet hb)
  clear hb HM3
  rw [HQ.out]
  unfold quotedV
  go_wp2_with fail
  refine wp_region_noPanic ?_
  refine wp_region_keep (S := (fun w' => (w'.cell? ⟨w.heap.size, 0, none⟩ = some (.int .i64 0) ∧ w'.cell? ⟨w.heap.size, 1, none⟩ = some (.int .i64 k) ∧ w'.cell? ⟨w.heap.size, 2, none⟩ = some (.int .i64 0) ∧ w'.cell? ⟨w.heap.size, 3, none⟩ = some (.string ⟨#[]⟩)) ∧ w'.cell? ⟨w.heap.size + 1, 0, none⟩ = some (.int .i64 0))) [3, 4, 5] (by kernel_rfl) ?_ (fun hH0 => ?_)
  · exact ⟨⟨HM4.out.cell 3 rfl 0 rfl, HM4.out.cell 3 rfl 1 rfl, HM4.out.cell 3 rfl 2 rfl, HM4.out.cell 3 rfl 3 rfl⟩, HM4.out.cell 2 rfl 0 rfl⟩
  have H0 := Tre.hid HM4.out.drew
  generalize hq : w4.drew = wq0 at H0 hH0 ⊢
  clear hq
  refine lPure (i := 1) (some 112) (v := ?_) (by rfl) (by kernel_rfl) (by kernel_rfl) (by kernel_rfl) (by kernel_rfl) (fun _ _ _ h => h) (by rfl) ?_ (keep_of hH0) ?_
  rotate_left
  · intro w; simp only [List.getElem?_toArray, List.getElem?_cons_succ, List.getElem?_cons_zero, Option.map_some, Option.some.injEq]; (first | (go_simp; done) | (go_simp; with_reducible rfl))
  try simp only [Act.put, List.setIfInBounds_toArray, List.set_cons_zero, List.set_cons_succ]
  refine lTake (i := 0) (some 111) (v := ?_) (by rfl) (by kernel_rfl) (by kernel_rfl) (by kernel_rfl) (by kernel_rfl) (by kernel_rfl) (fun _ _ _ h => h) (by rfl) ?_ hH0 ?_
  rotate_left
  · intro w hSw; (try dsimp only at hSw); simp only [List.getElem?_toArray, List.getElem?_cons_zero, Option.map_some, Option.some.injEq]; (first | (go_simp; done) | (go_simp; with_reducible rfl))
  try simp only [Act.put, List.setIfInBounds_toArray, List.set_cons_zero, List.set_cons_succ]
  refine lOne 2 (by kernel_rfl) (LStep.op (fun K hK => ?_))
  go_simp
  refine (fail b s k wq0 (lexAt H0.out 4 rfl)).mono ?_
  rintro e w' ⟨rfl, rfl⟩
  have H9 := errNew (k := k) H0.out
  generalize hev : wq0.heap.size = ev at H9 ⊢
  generalize hw : wq0.alloc (.cells #[.int .i64 (k : Int), .int .i64 5] 48) = wq1 at H9 ⊢
  have H1 := Tre.hid H9
  clear H9 hw hev
  (try dsimp only)
  refine hK.out _ _ ?_ (fun hH1 => ?_)
  · exact ⟨⟨H1.out.cell 4 rfl 0 rfl, H1.out.cell 4 rfl 1 rfl, H1.out.cell 4 rfl 2 rfl, H1.out.cell 4 rfl 3 rfl⟩, H1.out.cell 3 rfl 0 rfl⟩
  clear hK K hH0
  try simp only [Act.put, List.setIfInBounds_toArray, List.set_cons_zero, List.set_cons_succ]
  refine lOne 3 (by kernel_rfl) (LFall.op (by kernel_rfl) (fun K hK => ?_))
  have g0 := H1.out.cell 4 rfl 0 rfl
  have g1 := H1.out.cell 4 rfl 1 rfl
  have g2 := H1.out.cell 4 rfl 2 rfl
  have g3 := H1.out.cell 4 rfl 3 rfl
  have f0 := H1.out.free 4 rfl 0
  have f1 := H1.out.free 4 rfl 1
  have f2 := H1.out.free 4 rfl 2
  have f3 := H1.out.free 4 rfl 3
  have H9 := ((((H1.out.setCell 4 rfl 0 (.int .i64 0)).setCell 4 rfl 1 (.int .i64 k)).setCell 4 rfl 2 (.int .i64 0)).setCell 4 rfl 3 (.string ⟨#[]⟩))
  go_simp
  generalize hw : ((((wq1.setCell ⟨w.heap.size, 0, none⟩ (.int .i64 0)).setCell ⟨w.heap.size, 1, none⟩ (.int .i64 k)).setCell ⟨w.heap.size, 2, none⟩ (.int .i64 0)).setCell ⟨w.heap.size, 3, none⟩ (.string ⟨#[]⟩)) = wq2 at H9 ⊢
  have H2 := Tre.hid H9
  clear hw H9 g0 g1 g2 g3 f0 f1 f2 f3
  refine hK.out _ _ ?_
  clear hK K hH1
  try simp only [Act.put, List.setIfInBounds_toArray, List.set_cons_zero, List.set_cons_succ]
  refine lOne 4 (by kernel_rfl) (LFall.op (by kernel_rfl) (fun K hK => ?_))
  have g0 := H2.out.cell 3 rfl 0 rfl
  have f0 := H2.out.free 3 rfl 0
  have H9 := H2.out.setCell 3 rfl 0 (.int .i64 0)
  go_simp
  generalize hw : wq2.setCell ⟨w.heap.size + 1, 0, none⟩ (.int .i64 0) = wq3 at H9 ⊢
  have H3 := Tre.hid H9
  clear hw H9 g0 f0
  refine hK.out _ _ ?_
  clear hK K
  try simp only [Act.put, List.setIfInBounds_toArray, List.set_cons_zero, List.set_cons_succ]
  refine lOne 5 (by kernel_rfl) (LFall.op (by kernel_rfl) (fun K hK => ?_))
  have g0 := H3.out.cell 2 rfl 0 rfl
  have f0 := H3.out.free 2 rfl 0
  have H9 := H3.out.setCell 2 rfl 0 (.iface 44 (.pointer (some ⟨ev, 0, none⟩)))
  go_simp
  generalize hw : wq3.setCell ⟨w.heap.size + 1 + 1, 0, none⟩ (.iface 44 (.pointer (some ⟨ev, 0, none⟩))) = wq4 at H9 ⊢
  have H4 := Tre.hid H9
  clear hw H9 g0 f0
  refine hK.out _ _ ?_
  clear hK K
  try simp only [Act.put, List.setIfInBounds_toArray, List.set_cons_zero, List.set_cons_succ]
  refine lDone (by kernel_rfl) ?_
  refine NoPanic.normal ?_
  go_wp2_with fail
  have H9 : Mem w0 wq4 (errR [ev] (.iface 44 (.pointer (some ⟨ev, 0, none⟩))) k 5 :: nextL w1.heap.size w.heap.size 0 k 0 ⟨#[]⟩ 0 (.iface 44 (.pointer (some ⟨ev, 0, none⟩))) x b s k rs) := H4.out
  refine bodyPostM_ret (next_results _ w.heap.size 0 k 0 0 ⟨#[]⟩ (.iface 44 (.pointer (some ⟨ev, 0, none⟩))) _ rfl rfl rfl (H9.heap 4 rfl) (H9.heap 3 rfl) (H9.heap 2 rfl)) rfl ?_
  exact .inr ⟨HDM.out, _, _, _, _, _, _, [ev], rfl, ((((H9.del 1).del 1).del 1).del 1)⟩
set_option maxRecDepth 100000 in
set_option maxHeartbeats 8000000 in
theorem next_quote_some (w0 : World) (rs : List Res) (b : Nat) (s x : ByteArray) (k : Nat) (w : World) (h : Mem w0 w (lexR b s k :: rs)) (hk : k ≤ s.size) (hs : s.size ≤ 4194304) (hx : x.data.toList = s.data.toList.drop k) (hm : MaxAt w0) (h0 : 0 < x.size) (hw : wordLen x = 0) (h34 : x[0] = 34) (p : List UInt8 × Nat) (hq : quotedS (x.extract 1 x.size).data.toList = some p) :
    Calls Tryz.prog 32 #[.pointer (some ⟨b, 0, none⟩)] w (NextPost w0 rs b s k (nextS x.data.toList)) := by
  have HM0 := Tre.hid (((h.allocR (tokV 0 0 0 ⟨#[]⟩) 34).allocR #[.int .i64 0] 3).allocR #[.nilIface] 24)
  have HX := Tre.hid hx
  have hxs : x.size ≤ s.size := by
    have := congrArg List.length hx
    simp at this
    omega
  clear h hx
  have HMX := Tre.hid hm
  have HW0 := Tre.hid hw
  have HD0 := Tre.hid (drop_at x 0 h0)
  have hc255 := x[0].toNat_lt
  have e39 : ((x[0].toNat : Int) == 39) = false := by rw [h34]; rfl
  have e34 : ((x[0].toNat : Int) == 34) = true := by rw [h34]; rfl
  have e48 : (x[0].toNat : Int) < 48 := by rw [h34]; decide
  have HZS : Hid ((x.extract 1 x.size).size + 1 = x.size) := by
    show _ = _
    rw [ByteArray.size_extract]; omega
  have HDN := Tre.hid (nextS_quote h0 HW0.out h34)
  have HDM : Hid (nextS x.data.toList = some (⟨4, 0, 0, p.1⟩, p.2 + 1)) := by show _ = _; rw [HDN.out, hq]; rfl
  have HQ := Tre.hid hq
  have hpl := quotedS_len _ _ (Nat.le_refl _) p hq
  have hps : p.2 ≤ 4194304 := by have h1 := hpl.2; have h2 := HZS.out; have h3 : (x.extract 1 x.size).size = (x.extract 1 x.size).data.toList.length := rfl; omega
  clear HDN hq h34 hpl
  clear hm hw
  refine calls_marks Tryz.func32 rfl ?_
  simp only [Tryz.ntmps32, List.size_toArray, List.length_cons, List.length_nil, Nat.reduceAdd, Nat.reduceSub, Array.replicate_succ, Array.replicate_zero, List.push_toArray, List.append_toArray, List.nil_append, List.cons_append]
  go_wp2_with fail
  refine (rest_is b s k x _ (lexAt HM0.out 3 rfl) hk (by omega) HX.out).mono ?_
  rintro e w1 ⟨rfl, mq⟩
  have M1 := HM0.out.quiet mq
  simp only [World.size_alloc] at M1
  have HM1 := Tre.hid M1
  obtain ⟨l0, l1⟩ := M1.two 3 rfl
  have hbl := World.block_lt_of_cell? w1 _ l0
  have htl := (Array.getElem?_eq_some_iff.1 (M1.heap 2 rfl)).1
  have t1 : w1.cell? ⟨w.heap.size, 1, none⟩ = some (.int .i64 0) := M1.cell 2 rfl 1 rfl
  have f1 := M1.free 2 rfl 1
  clear mq M1 HM0
  simp only at hbl
  go_wp2_with fail
  refine (word x _ (by omega)).mono ?_
  rintro e w2 ⟨rfl, rfl⟩
  rw [HW0.out, show ((0 : Nat) : Int) = 0 from rfl]
  have M2 := (HM1.out.setCell 2 rfl 1 (.int .i64 (k : Int))).allocR #[.string x] 9
  rw [World.size_setCell] at M2
  generalize hg : ((w1.setCell ⟨w.heap.size, 1, none⟩ (.int .i64 (k : Int))).alloc (.cells #[.string x] 9)) = w2 at M2 ⊢
  have M2' : Mem w0 w2 (nextL w1.heap.size w.heap.size 0 k 0 ⟨#[]⟩ 0 .nilIface x b s k rs) := M2
  have HM2 := Tre.hid M2'
  have n1 := M2'.cell 2 rfl 0 rfl
  have n2 := M2'.free 2 rfl 0
  have s1 := M2'.cell 0 rfl 0 rfl
  have hne : w1.heap.size ≠ w.heap.size + 1 := by have := HM1.out.heap 1 rfl; intro e; rw [← e] at this; simp at this
  clear hg M2 M2' t1 f1 l0 l1 HM1
  go_wp2_with fail
  have M3 := HM2.out.setCell 2 rfl 0 (.int .i64 0)
  generalize hg : w2.setCell ⟨w.heap.size + 1, 0, none⟩ (.int .i64 0) = w3 at M3 ⊢
  have HM3 : Hid (Mem w0 w3 (nextL w1.heap.size w.heap.size 0 k 0 ⟨#[]⟩ 0 .nilIface x b s k rs)) := M3
  clear hg M3 HM2 n1 n2 s1
  refine (quoted (x.extract 1 x.size) _ (by have := HZS.out; omega)).mono ?_
  rintro e w4 ⟨rfl, hb⟩
  have HM4 := Tre.hid (HM3.out.quiet hb)
  clear hb HM3
  rw [HQ.out]
  unfold quotedV
  have t0 := HM4.out.cell 3 rfl 0 rfl
  have f0 := HM4.out.free 3 rfl 0
  have t1 := HM4.out.cell 3 rfl 1 rfl
  have f1 := HM4.out.free 3 rfl 1
  have t2 := HM4.out.cell 3 rfl 2 rfl
  have f2 := HM4.out.free 3 rfl 2
  have t3 := HM4.out.cell 3 rfl 3 rfl
  have f3 := HM4.out.free 3 rfl 3
  have n1 := HM4.out.cell 2 rfl 0 rfl
  have n2 := HM4.out.free 2 rfl 0
  have v1 := HM4.out.cell 1 rfl 0 rfl
  have v2 := HM4.out.free 1 rfl 0
  have s1 := HM4.out.cell 0 rfl 0 rfl
  go_wp2_with fail
  have H9 : Mem w0 _ (nextL w1.heap.size w.heap.size 4 k 0 ⟨p.1.toArray⟩ ((p.2 : Int) + 1) .nilIface x b s k rs) := ((((((((HM4.out.setCell 3 rfl 0 (.int .i64 4)).setCell 3 rfl 3 (.string ⟨p.1.toArray⟩)).setCell 3 rfl 0 (.int .i64 4)).setCell 3 rfl 1 (.int .i64 k)).setCell 3 rfl 2 (.int .i64 0)).setCell 3 rfl 3 (.string ⟨p.1.toArray⟩)).setCell 2 rfl 0 (.int .i64 ((p.2 : Int) + 1))).setCell 1 rfl 0 .nilIface)
  refine bodyPostM_ret (next_results _ w.heap.size 4 k 0 ((p.2 : Int) + 1) ⟨p.1.toArray⟩ .nilIface _ rfl rfl rfl (H9.heap 3 rfl) (H9.heap 2 rfl) (H9.heap 1 rfl)) rfl ?_
  exact .inl ⟨⟨4, 0, 0, p.1⟩, p.2 + 1, ⟨p.1.toArray⟩, HDM.out, by simp, rfl, ((((H9.del 0).del 0).del 0).del 0)⟩
end Go.Proofs.YtcpcheengfgpaaaGreatDoor.lex
namespace Go.Tre
/-- the handle of a type -/
noncomputable def rtA (t : TypeId) : Addr := ⟨Go.Proofs.Tryz.prog.globals.size, t, none⟩
/-- errors.errorType holds the handle of the type error -/
def ErrT (w : World) : Prop := w.cell? ⟨0, 0, none⟩ = some (.iface 123 (.agg #[.pointer (some (rtA 24))]))
theorem ErrT.below {w w' : World} (h : ErrT w) (hb : RowKit.Below w.heap.size w w') : ErrT w' := cell_below hb h
end Go.Tre
namespace Go.Proofs.YtcpcheengfgpaaaGreatDoor.errs
open Go.RowKit Go.Extern.Stop Go.Stop Go.Extern Go.Tre
abbrev PE : TypeId := 46
abbrev TE : TypeId := 44
abbrev TR : TypeId := 123
abbrev TV : TypeId := 72

theorem as_nil (t : Value) (w : World) :
    Calls Tryz.prog 16 #[.nilIface, t] w fun e w' => e = .returned (.bool false) ∧ w' = w := by
  go_enter Tryz.func16, Tryz.ntmps16
  go_wp2
  go_ret
  exact ⟨rfl, rfl⟩

theorem valueOfP (t : Addr) (w : World) : (ReflectliteValue.unpack (.iface 46 (.pointer (some t)))).run Tryz.prog w
    = .ok (.agg #[.pointer (some (rtA 46)), .pointer (some ⟨w.heap.size, 0, none⟩), .int .u64 150]) (w.alloc (.cells #[.pointer (some t)] 46)) := by kernel_rfl
theorem typeP (a : Addr) (w : World) : (ReflectliteValue.methodAny (ReflectliteValue.valueError "reflectlite.Value.Type" 0) (fun t _ _ _ => ReflectliteType.toType t) #[.agg #[.pointer (some (rtA 46)), .pointer (some a), .int .u64 150]]).run Tryz.prog w
    = .ok (.iface 123 (.agg #[.pointer (some (rtA 46))])) w := by kernel_rfl
theorem methodKind (n : Nat) (h : Value) (w : World) : (Go.method (n + 1) 123 (.agg #[h]) "Kind").run Tryz.prog w = .ok (146, h) w := by kernel_rfl
theorem kindP (w : World) : ((ReflectliteType.abiMethod fun t => (fun a : Nat => Value.int IntKind.u8 (a : Int)) <$> Rtype.kind t) #[.pointer (some (rtA 46))]).run Tryz.prog w = .ok (.int .u8 22) w := by kernel_rfl
theorem kindE (w : World) : ((ReflectliteType.abiMethod fun t => (fun a : Nat => Value.int IntKind.u8 (a : Int)) <$> Rtype.kind t) #[.pointer (some (rtA 44))]).run Tryz.prog w = .ok (.int .u8 22) w := by kernel_rfl
theorem rlm (z : Sem Value) (f : TypeId → Addr → Nat → Nat → Sem Value) (v : Value) :
    ReflectliteValue.method z f #[v] = (do match ← ReflectliteValue.parts v with | none => z | some (t, a, fl) => f t a fl (fl % 32)) := rfl
theorem partsP (a : Addr) (w : World) : (ReflectliteValue.parts (.agg #[.pointer (some (rtA 46)), .pointer (some a), .int .u64 150])).run Tryz.prog w = .ok (some (46, a, 150)) w := by kernel_rfl
theorem isNilP (a p : Addr) (W : World) (ha : W.cell? a = some (.pointer (some p))) :
    (ReflectliteValue.method (ReflectliteValue.valueError "reflectlite.Value.IsNil" 0) ReflectliteValue.isNil #[.agg #[.pointer (some (rtA 46)), .pointer (some a), .int .u64 150]]).run Tryz.prog W = .ok (.bool false) W := by
  rw [rlm]
  simp only [Sem.run_bind, partsP, Result.andThen]
  simp [ReflectliteValue.isNil, loadVar, isAgg, underlying, Tryz.underlying46, ha, Result.andThen]
theorem methodElem (n : Nat) (h : Value) (w : World) : (Go.method (n + 1) 123 (.agg #[h]) "Elem").run Tryz.prog w = .ok (159, .agg #[h]) w := by kernel_rfl
theorem methodImplements (n : Nat) (h : Value) (w : World) : (Go.method (n + 1) 123 (.agg #[h]) "Implements").run Tryz.prog w = .ok (160, .agg #[h]) w := by kernel_rfl
theorem methodAssignableTo (n : Nat) (h : Value) (w : World) : (Go.method (n + 1) 123 (.agg #[h]) "AssignableTo").run Tryz.prog w = .ok (157, .agg #[h]) w := by kernel_rfl
theorem elemP (w : World) : (ReflectliteType.method ReflectliteType.elem #[.agg #[.pointer (some (rtA 46))]]).run Tryz.prog w = .ok (.iface 123 (.agg #[.pointer (some (rtA 44))])) w := by kernel_rfl
theorem implementsE (w : World) : (ReflectliteType.relation "Implements" ReflectliteType.implements_ #[.agg #[.pointer (some (rtA 44))], .iface 123 (.agg #[.pointer (some (rtA 24))])]).run Tryz.prog w = .ok (.bool true) w := by kernel_rfl
theorem typeOfE (v : Value) (w : World) : (ReflectliteType.typeOf #[.iface 44 v]).run Tryz.prog w = .ok (.iface 123 (.agg #[.pointer (some (rtA 44))])) w := by kernel_rfl
theorem assignableE (w : World) : (ReflectliteType.relation "AssignableTo" ReflectliteType.assignableTo #[.agg #[.pointer (some (rtA 44))], .iface 123 (.agg #[.pointer (some (rtA 44))])]).run Tryz.prog w = .ok (.bool true) w := by kernel_rfl
theorem typeOfJ (v : Value) (w : World) : (ReflectliteType.typeOf #[.iface 155 v]).run Tryz.prog w = .ok (.iface 123 (.agg #[.pointer (some (rtA 155))])) w := by kernel_rfl
theorem assignableJ (w : World) : (ReflectliteType.relation "AssignableTo" ReflectliteType.assignableTo #[.agg #[.pointer (some (rtA 155))], .iface 123 (.agg #[.pointer (some (rtA 44))])]).run Tryz.prog w = .ok (.bool false) w := by kernel_rfl
theorem valueOfE (e : Addr) (w : World) : (ReflectliteValue.unpack (.iface 44 (.pointer (some e)))).run Tryz.prog w
    = .ok (.agg #[.pointer (some (rtA 44)), .pointer (some ⟨w.heap.size, 0, none⟩), .int .u64 150]) (w.alloc (.cells #[.pointer (some e)] 44)) := by kernel_rfl
theorem elemOfP (w : World) : (Rtype.elem? 46).run Tryz.prog w = .ok (some 44) w := by kernel_rfl
theorem mkE (p : Addr) (w : World) : (ReflectliteValue.mk 44 p ReflectliteValue.flagAddr).run Tryz.prog w = .ok (.agg #[.pointer (some (rtA 44)), .pointer (some p), .int .u64 406]) w := by kernel_rfl
theorem elemVP (a p : Addr) (W : World) (ha : W.cell? a = some (.pointer (some p))) :
    (ReflectliteValue.method (ReflectliteValue.valueError "reflectlite.Value.Elem" 0) ReflectliteValue.elem #[.agg #[.pointer (some (rtA 46)), .pointer (some a), .int .u64 150]]).run Tryz.prog W
      = .ok (.agg #[.pointer (some (rtA 44)), .pointer (some p), .int .u64 406]) W := by
  rw [rlm]
  simp only [Sem.run_bind, partsP, Result.andThen]
  simp [ReflectliteValue.elem, loadVar, isAgg, underlying, Tryz.underlying46, ha, Result.andThen, elemOfP, mkE]
theorem rls (v x : Value) : ReflectliteValue.set #[v, x] = (do
    let (some (dst, a, fl), some (src, b, _)) := (← ReflectliteValue.parts v, ← ReflectliteValue.parts x)
      | unsupported (.noEntry "extern/(internal/reflectlite.Value).Set.zeroValue")
    if fl / ReflectliteValue.flagAddr % 2 == 0 then unsupported (.noEntry "extern/(internal/reflectlite.Value).Set.unaddressable")
    let val ← loadVar src b
    if ← Rtype.directlyAssignable dst src then storeVar dst a val
    else if ← Rtype.implements dst src then
      if (← Rtype.kind src) == 20 then
        match val with
        | .nilIface => unsupported (.noEntry "extern/reflectlite: a nil value of one interface type handed on as a value of another")
        | _ => storeVar dst a val
      else storeVar dst a (.iface src val)
    else panicString ("reflectlite.Set: value of type " ++ (← Rtype.spelt src) ++ " is not assignable to type " ++ (← Rtype.spelt dst))
    pure (.tuple #[])) := rfl
theorem partsEa (a : Addr) (w : World) : (ReflectliteValue.parts (.agg #[.pointer (some (rtA 44)), .pointer (some a), .int .u64 406])).run Tryz.prog w = .ok (some (44, a, 406)) w := by kernel_rfl
theorem partsE (a : Addr) (w : World) : (ReflectliteValue.parts (.agg #[.pointer (some (rtA 44)), .pointer (some a), .int .u64 150])).run Tryz.prog w = .ok (some (44, a, 150)) w := by kernel_rfl
theorem directE (w : World) : (Rtype.directlyAssignable 44 44).run Tryz.prog w = .ok true w := by kernel_rfl
theorem setE (ta b e : Addr) (old : Value) (W : World) (hb : W.cell? b = some (.pointer (some e))) (ht : W.cell? ta = some old) (hf : W.frozen? ta = false) :
    (ReflectliteValue.set #[.agg #[.pointer (some (rtA 44)), .pointer (some ta), .int .u64 406], .agg #[.pointer (some (rtA 44)), .pointer (some b), .int .u64 150]]).run Tryz.prog W
      = .ok (.tuple #[]) (W.setCell ta (.pointer (some e))) := by
  rw [rls]
  simp only [Sem.run_bind, partsEa, partsE, Result.andThen]
  simp [ReflectliteValue.flagAddr, loadVar, isAgg, underlying, Tryz.underlying44, hb, Result.andThen, directE, storeVar, Value.cells, storeCells, Addr.add]
  rw [run_store Tryz.prog W ta _ _ (by rfl)]
  simp [ht, hf]
end Go.Proofs.YtcpcheengfgpaaaGreatDoor.errs
namespace Go.Proofs.YtcpcheengfgpaaaGreatDoor.errs
open Go.RowKit Go.Extern.Stop Go.Stop Go.Extern Go.Tre

/-! errors.As -/
set_option maxHeartbeats 4000000 in
/-- errors.as at an error that is of the target's own type -/
theorem as1_hit (e t a : Addr) (old : Value) (w : World) (ht0 : w.cell? t = some old) (hf0 : w.frozen? t = false) (ha : w.cell? a = some (.pointer (some t))) :
    Calls Tryz.prog 36 #[.iface 44 (.pointer (some e)), .iface 46 (.pointer (some t)), .agg #[.pointer (some (rtA 46)), .pointer (some a), .int .u64 150], .iface 123 (.agg #[.pointer (some (rtA 44))])] w
      fun ev w' => ev = .returned (.bool true) ∧ w' = ((w.alloc (.cells #[.pointer (some (rtA 46)), .pointer (some a), .int .u64 150] 72)).alloc (.cells #[.pointer (some e)] 44)).setCell t (.pointer (some e)) := by
  have h6 := @run_callFunc_extern Tryz.prog 33 _ (fun args => ReflectliteValue.unpack (args.getD 0 (.tuple #[]))) Tryz.func33 (by kernel_rfl) (by kernel_rfl) (by kernel_rfl) (by kernel_rfl)
  have h10 := @run_callFunc_extern Tryz.prog 59 _ ReflectliteType.typeOf Tryz.func59 (by kernel_rfl) (by kernel_rfl) (by kernel_rfl) (by kernel_rfl)
  have h35 := @run_callFunc_extern Tryz.prog 157 _ (ReflectliteType.relation "AssignableTo" ReflectliteType.assignableTo) Tryz.func157 (by kernel_rfl) (by kernel_rfl) (by kernel_rfl) (by kernel_rfl)
  have h11 := @run_callFunc_extern Tryz.prog 60 _ (ReflectliteValue.method (ReflectliteValue.valueError "reflectlite.Value.Elem" 0) ReflectliteValue.elem) Tryz.func60 (by kernel_rfl) (by kernel_rfl) (by kernel_rfl) (by kernel_rfl)
  have h12 := @run_callFunc_extern Tryz.prog 61 _ ReflectliteValue.set Tryz.func61 (by kernel_rfl) (by kernel_rfl) (by kernel_rfl) (by kernel_rfl)
  have tO := typeOfE
  have mA := methodAssignableTo
  have a25 := assignableE
  have v25 := valueOfE
  have htl : t.block < w.heap.size := World.block_lt_of_cell? w t ht0
  have hal : a.block < w.heap.size := World.block_lt_of_cell? w a ha
  have el := elemVP a t (w.alloc (.cells #[.pointer (some (rtA 46)), .pointer (some a), .int .u64 150] 72)) (by rw [World.cell?_alloc_lt _ _ a hal]; exact ha)
  have st := setE t ⟨w.heap.size + 1, 0, none⟩ e old ((w.alloc (.cells #[.pointer (some (rtA 46)), .pointer (some a), .int .u64 150] 72)).alloc (.cells #[.pointer (some e)] 44))
    (by rw [World.cell?_alloc_at _ _ _ _ (by simp)]; rfl)
    (by rw [World.cell?_alloc_lt _ _ t (by simp; omega), World.cell?_alloc_lt _ _ t htl]; exact ht0)
    (by rw [World.frozen?_alloc_old _ _ t (by simp; omega), World.frozen?_alloc_old _ _ t (Nat.ne_of_lt htl)]; exact hf0)
  go_enter Tryz.func36, Tryz.ntmps36
  go_wp2
  refine wp_loop_rounds 1 ?_
  rw [rounds_succ]
  go_wp2
  go_ret
  exact ⟨rfl, rfl⟩
end Go.Proofs.YtcpcheengfgpaaaGreatDoor.errs
namespace Go.Proofs.YtcpcheengfgpaaaGreatDoor.errs
open Go.RowKit Go.Extern.Stop Go.Stop Go.Extern Go.Tre
theorem methodUnwrap (n : Nat) (h : Value) (w : World) : (Go.method (n + 1) 155 h "Unwrap").run Tryz.prog w = .ok (169, h) w := by kernel_rfl
theorem noAs (v : Value) (xT : TypeId) (w : World) : (Instr.typeAssert (.iface 155 v) xT 128 true).run Tryz.prog w = .ok (.tuple #[.nilIface, .bool false]) w := run_typeAssert_lacksB Tryz.underlying128 (by kernel_rfl) (by kernel_rfl) v xT w
theorem noUnwrap (v : Value) (xT : TypeId) (w : World) : (Instr.typeAssert (.iface 155 v) xT 131 true).run Tryz.prog w = .ok (.tuple #[.nilIface, .bool false]) w := run_typeAssert_lacksB Tryz.underlying131 (by kernel_rfl) (by kernel_rfl) v xT w
theorem hasUnwraps (v : Value) (xT : TypeId) (w : World) : (Instr.typeAssert (.iface 155 v) xT 132 true).run Tryz.prog w = .ok (.tuple #[.iface 155 v, .bool true]) w := run_typeAssert_hasB Tryz.underlying132 (by kernel_rfl) v xT w
theorem unwrap (q : Nat) (v : Value) (w : World) (hq : w.cell? ⟨q, 0, none⟩ = some v) :
    Calls Tryz.prog 169 #[.pointer (some ⟨q, 0, none⟩)] w fun e w' => e = .returned v ∧ w = w' := by
  go_enter Tryz.func169, Tryz.ntmps169
  go_wp2
  go_ret
  exact ⟨rfl, rfl⟩
set_option maxRecDepth 100000 in
set_option maxHeartbeats 4000000 in
theorem as1_join (p q r c : Nat) (x : Value) (t a : Addr) (old : Value) (w : World) (ht0 : w.cell? t = some old) (hf0 : w.frozen? t = false) (ha : w.cell? a = some (.pointer (some t)))
    (hq : w.cell? ⟨q, 0, none⟩ = some (.slice (some ⟨r, 0, none⟩) 2 c)) (hr : w.cell? ⟨r, 0, none⟩ = some (.iface 44 (.pointer (some ⟨p, 0, none⟩)))) :
    Calls Tryz.prog 36 #[.iface 155 (.pointer (some ⟨q, 0, none⟩)), .iface 46 (.pointer (some t)), .agg #[.pointer (some (rtA 46)), .pointer (some a), .int .u64 150], .iface 123 (.agg #[.pointer (some (rtA 44))])] w
      fun ev w' => ev = .returned (.bool true) ∧ w' = (((w.alloc (.cells #[.pointer (some (rtA 46)), .pointer (some a), .int .u64 150] 72)).alloc (.cells #[.pointer (some (rtA 46)), .pointer (some a), .int .u64 150] 72)).alloc (.cells #[.pointer (some ⟨p, 0, none⟩)] 44)).setCell t (.pointer (some ⟨p, 0, none⟩)) := by
  have h10 := @run_callFunc_extern Tryz.prog 59 _ ReflectliteType.typeOf Tryz.func59 (by kernel_rfl) (by kernel_rfl) (by kernel_rfl) (by kernel_rfl)
  have h35 := @run_callFunc_extern Tryz.prog 157 _ (ReflectliteType.relation "AssignableTo" ReflectliteType.assignableTo) Tryz.func157 (by kernel_rfl) (by kernel_rfl) (by kernel_rfl) (by kernel_rfl)
  have tO := typeOfJ
  have mA := methodAssignableTo
  have mU := methodUnwrap
  have na := noAs
  have nu := noUnwrap
  have nh := hasUnwraps
  have aJ := assignableJ
  go_enter Tryz.func36, Tryz.ntmps36
  go_wp2
  refine wp_loop_rounds 1 ?_
  rw [rounds_succ]
  go_wp2_with fail
  refine (unwrap q _ _ (by rw [World.cell?_alloc_lt _ _ _ (World.block_lt_of_cell? w _ hq)]; exact hq)).mono ?_
  rintro e w' ⟨rfl, rfl⟩
  have hr' : (w.alloc (.cells #[.pointer (some (rtA 46)), .pointer (some a), .int .u64 150] 72)).cell? ⟨r, 0, none⟩ = some (.iface 44 (.pointer (some ⟨p, 0, none⟩))) := by rw [World.cell?_alloc_lt _ _ _ (World.block_lt_of_cell? w _ hr)]; exact hr
  have ht' : (w.alloc (.cells #[.pointer (some (rtA 46)), .pointer (some a), .int .u64 150] 72)).cell? t = some old := by rw [World.cell?_alloc_lt _ _ _ (World.block_lt_of_cell? w _ ht0)]; exact ht0
  have hf' : (w.alloc (.cells #[.pointer (some (rtA 46)), .pointer (some a), .int .u64 150] 72)).frozen? t = false := by rw [World.frozen?_alloc_old _ _ t (Nat.ne_of_lt (World.block_lt_of_cell? w _ ht0))]; exact hf0
  have ha' : (w.alloc (.cells #[.pointer (some (rtA 46)), .pointer (some a), .int .u64 150] 72)).cell? a = some (.pointer (some t)) := by rw [World.cell?_alloc_lt _ _ _ (World.block_lt_of_cell? w _ ha)]; exact ha
  go_wp2_with fail
  refine wp_loop_rounds 1 ?_
  rw [rounds_succ]
  go_wp2_with fail
  refine (as1_hit ⟨p, 0, none⟩ t a old _ ht' hf' ha').mono ?_
  rintro e w' ⟨rfl, rfl⟩
  go_wp2_with fail
  go_ret
  exact ⟨rfl, rfl⟩
end Go.Proofs.YtcpcheengfgpaaaGreatDoor.errs
namespace Go.Proofs.YtcpcheengfgpaaaGreatDoor.errs
open Go.RowKit Go.Extern.Stop Go.Stop Go.Extern Go.Tre
set_option maxRecDepth 100000 in
set_option maxHeartbeats 4000000 in
/-- errors.As, its error's errors.as by a contract -/
theorem as_of (x : Value) (t : Addr) (old : Value) (w : World) (hx : x ≠ .nilIface) (hx' : ∃ tx vx, x = .iface tx vx) (hg : ErrT w) (ht0 : w.cell? t = some old) (hf0 : w.frozen? t = false) (p : Nat)
    (H : ∀ (a : Addr) (w1 : World), w1.cell? t = some old → w1.frozen? t = false → w1.cell? a = some (.pointer (some t)) → Below w.heap.size w w1 →
      Calls Tryz.prog 36 #[x, .iface 46 (.pointer (some t)), .agg #[.pointer (some (rtA 46)), .pointer (some a), .int .u64 150], .iface 123 (.agg #[.pointer (some (rtA 44))])] w1
        fun ev w' => ev = .returned (.bool true) ∧ ∃ w2, Below w1.heap.size w1 w2 ∧ w' = w2.setCell t (.pointer (some ⟨p, 0, none⟩))) :
    Calls Tryz.prog 16 #[x, .iface 46 (.pointer (some t))] w fun ev w' => ev = .returned (.bool true) ∧ ∃ w2, Below w.heap.size w w2 ∧ w' = w2.setCell t (.pointer (some ⟨p, 0, none⟩)) := by
  have h6 := @run_callFunc_extern Tryz.prog 33 _ (fun args => ReflectliteValue.unpack (args.getD 0 (.tuple #[]))) Tryz.func33 (by kernel_rfl) (by kernel_rfl) (by kernel_rfl) (by kernel_rfl)
  have h7 := @run_callFunc_extern Tryz.prog 34 _ (ReflectliteValue.methodAny (ReflectliteValue.valueError "reflectlite.Value.Type" 0) (fun t _ _ _ => ReflectliteType.toType t)) Tryz.func34 (by kernel_rfl) (by kernel_rfl) (by kernel_rfl) (by kernel_rfl)
  have h8 := @run_callFunc_extern Tryz.prog 35 _ (ReflectliteValue.method (ReflectliteValue.valueError "reflectlite.Value.IsNil" 0) ReflectliteValue.isNil) Tryz.func35 (by kernel_rfl) (by kernel_rfl) (by kernel_rfl) (by kernel_rfl)
  have h27 := @run_callFunc_extern Tryz.prog 146 _ (ReflectliteType.abiMethod fun t => do pure (.int .u8 (← Rtype.kind t))) Tryz.func146 (by kernel_rfl) (by kernel_rfl) (by kernel_rfl) (by kernel_rfl)
  have h37 := @run_callFunc_extern Tryz.prog 159 _ (ReflectliteType.method ReflectliteType.elem) Tryz.func159 (by kernel_rfl) (by kernel_rfl) (by kernel_rfl) (by kernel_rfl)
  have h38 := @run_callFunc_extern Tryz.prog 160 _ (ReflectliteType.relation "Implements" ReflectliteType.implements_) Tryz.func160 (by kernel_rfl) (by kernel_rfl) (by kernel_rfl) (by kernel_rfl)
  have f6 := valueOfP
  have f7 := typeP
  have mK := methodKind
  have mE := methodElem
  have mI := methodImplements
  have k27 := kindP
  have k25 := kindE
  have e27 := elemP
  have i25 := implementsE
  have htl : t.block < w.heap.size := World.block_lt_of_cell? w t ht0
  have n8 := isNilP ⟨w.heap.size, 0, none⟩ t ((w.alloc (.cells #[.pointer (some t)] 46)).alloc (.cells #[.pointer (some (rtA 46)), .pointer (some ⟨w.heap.size, 0, none⟩), .int .u64 150] 72)) (by simp)
  have hlt : 0 < w.heap.size := World.block_lt_of_cell? w _ hg
  have hg2 : ((w.alloc (.cells #[.pointer (some t)] 46)).alloc (.cells #[.pointer (some (rtA 46)), .pointer (some ⟨w.heap.size, 0, none⟩), .int .u64 150] 72)).cell? ⟨0, 0, none⟩ = some (.iface 123 (.agg #[.pointer (some (rtA 24))])) := by
    rw [World.cell?_alloc_lt _ _ ⟨0, 0, none⟩ (by simp; try omega), World.cell?_alloc_lt _ _ ⟨0, 0, none⟩ hlt]; exact hg
  have H1 := H ⟨w.heap.size, 0, none⟩ ((w.alloc (.cells #[.pointer (some t)] 46)).alloc (.cells #[.pointer (some (rtA 46)), .pointer (some ⟨w.heap.size, 0, none⟩), .int .u64 150] 72))
    (by rw [World.cell?_alloc_lt _ _ t (by simp; omega), World.cell?_alloc_lt _ _ t htl]; exact ht0)
    (by rw [World.frozen?_alloc_old _ _ t (by simp; omega), World.frozen?_alloc_old _ _ t (Nat.ne_of_lt htl)]; exact hf0)
    (by rw [World.cell?_alloc_lt _ _ ⟨w.heap.size, 0, none⟩ (by simp), World.cell?_alloc_at _ _ _ _ (by simp)]; rfl)
    (((Below.refl _ _).alloc (Nat.le_refl _) _).alloc (by simp) _)
  have HH := Tre.hid H1
  have HHT := Tre.hid hg
  clear H1 H hg
  obtain ⟨tx, vx, rfl⟩ := hx'
  clear hx
  go_enter Tryz.func16, Tryz.ntmps16
  go_wp2_with fail
  refine HH.out.mono ?_
  rintro e w' ⟨rfl, w2, hb, rfl⟩
  have HB := Tre.hid hb
  clear hb
  go_wp2_with fail
  go_ret
  exact ⟨rfl, w2, (((Below.refl _ w).alloc (Nat.le_refl _) _).alloc (by simp) _).trans (HB.out.mono (by simp; omega)), rfl⟩
theorem as_any (v : Value) (bs : List Nat) (at_ no : Nat) (t : Addr) (old : Value) (w : World) (hE : ErrIn w bs v at_ no) (hg : ErrT w) (ht0 : w.cell? t = some old) (hf0 : w.frozen? t = false) :
    Calls Tryz.prog 16 #[v, .iface 46 (.pointer (some t))] w fun ev w' => ev = .returned (.bool true) ∧ ∃ p w2, Below w.heap.size w w2 ∧ w.heap[p]? = some (.cells #[.int .i64 at_, .int .i64 no] 48 (0, 0)) ∧ w' = w2.setCell t (.pointer (some ⟨p, 0, none⟩)) := by
  rcases hE with ⟨p, rfl, rfl, h1⟩ | ⟨p, q, r, tq, x, c, rfl, rfl, h1, h2, ⟨t', cs, fz, h3, h4, h4'⟩, h5⟩
  · refine (as_of _ t old w (by intro h; cases h) ⟨_, _, rfl⟩ hg ht0 hf0 p ?_).mono ?_
    · intro a w1 c1 c2 c3 hb
      refine (as1_hit ⟨p, 0, none⟩ t a old w1 c1 c2 c3).mono ?_
      rintro e w' ⟨rfl, rfl⟩
      exact ⟨rfl, _, ((Below.refl _ w1).alloc (Nat.le_refl _) _).alloc (by simp) _, rfl⟩
    · rintro e w' ⟨rfl, w2, hb, rfl⟩
      exact ⟨rfl, p, w2, hb, h1, rfl⟩
  · refine (as_of _ t old w (by intro h; cases h) ⟨_, _, rfl⟩ hg ht0 hf0 p ?_).mono ?_
    · intro a w1 c1 c2 c3 hb
      refine (as1_join p q r c x t a old w1 c1 c2 c3 ?_ ?_).mono ?_
      · exact cell_below hb (by simp [World.cell?, h2])
      · exact cell_below hb (by simp [World.cell?, h3, h4])
      · rintro e w' ⟨rfl, rfl⟩
        exact ⟨rfl, _, (((Below.refl _ w1).alloc (Nat.le_refl _) _).alloc (by simp) _).alloc (by simp; omega) _, rfl⟩
    · rintro e w' ⟨rfl, w2, hb, rfl⟩
      exact ⟨rfl, p, w2, hb, h1, rfl⟩
end Go.Proofs.YtcpcheengfgpaaaGreatDoor.errs
namespace Go.Tre
/-- what the lexer wants of the library's variables -/
structure LexEnv (w : World) : Prop where
  max : MaxAt w
  sp : SpaceAt w
  rg : Go.Proofs.YtcpcheengfgpaaaGreatDoor.lex.RangeAt w
  et : ErrT w
theorem LexEnv.below {w w' : World} (h : LexEnv w) (hb : RowKit.Below w.heap.size w w') : LexEnv w' := ⟨h.max.below hb, h.sp.below hb, h.rg.below hb, h.et.below hb⟩
end Go.Tre
namespace Go.Proofs.YtcpcheengfgpaaaGreatDoor.lex
open Go.RowKit Go.Tre
theorem next (w0 : World) (rs : List Res) (b : Nat) (s x : ByteArray) (k : Nat) (w : World) (h : Mem w0 w (lexR b s k :: rs)) (hk : k ≤ s.size) (hs : s.size ≤ 4194304) (hx : x.data.toList = s.data.toList.drop k) (h0 : 0 < x.size) (E : LexEnv w0) :
    Calls Tryz.prog 32 #[.pointer (some ⟨b, 0, none⟩)] w (NextPost w0 rs b s k (nextS x.data.toList)) := by
  by_cases h1 : 100 < wordLen x
  · exact next_word_long w0 rs b s x k w h hk hs hx E.max h1
  · by_cases h2 : 0 < wordLen x
    · exact next_word_short w0 rs b s x k w h hk hs hx E.max ⟨h2, by omega⟩
    · have hw : wordLen x = 0 := by omega
      by_cases h39 : x[0] = 39
      · by_cases h3 : wordLen (x.extract 1 x.size) = 0
        · exact next_tick_none w0 rs b s x k w h hk hs hx E.max h0 hw h39 h3
        · by_cases h4 : 100 < wordLen (x.extract 1 x.size)
          · exact next_tick_long w0 rs b s x k w h hk hs hx E.max h0 hw h39 h4
          · exact next_tick_some w0 rs b s x k w h hk hs hx E.max h0 hw h39 (by omega) (by omega)
      · by_cases h34 : x[0] = 34
        · cases hq : quotedS (x.extract 1 x.size).data.toList with
          | none => exact next_quote_none w0 rs b s x k w h hk hs hx E.max h0 hw h34 hq
          | some p => exact next_quote_some w0 rs b s x k w h hk hs hx E.max h0 hw h34 p hq
        · by_cases h5 : (x[0].toNat : Int) < 48
          · exact next_sym_lo w0 rs b s x k w h hk hs hx E.max h0 hw E.sp h39 h34 h5
          · by_cases h6 : 57 < (x[0].toNat : Int)
            · exact next_sym_hi w0 rs b s x k w h hk hs hx E.max h0 hw E.sp h39 h34 h6
            · by_cases h7 : digitsVal (x.data.toList.takeWhile isDig) ≤ 9223372036854775807
              · exact next_num_ok w0 rs b s x k w h hk hs hx E.max h0 hw (by omega) (by omega) h7
              · exact next_num_no w0 rs b s x k w h hk hs hx E.max h0 hw E.rg (by omega) (by omega) h7
end Go.Proofs.YtcpcheengfgpaaaGreatDoor.lex
