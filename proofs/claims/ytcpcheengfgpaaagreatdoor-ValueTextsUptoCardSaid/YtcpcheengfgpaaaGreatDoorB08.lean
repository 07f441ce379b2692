/- (*lexer).next: a symbol. -/
import Derived.Test.YtcpcheengfgpaaaGreatDoorB07
import Derived.Test.YtcpcheengfgpaaaGreatDoorB01
import Derived.Deep.RegionHeld3
set_option linter.unusedVariables false
namespace Go.Proofs.YtcpcheengfgpaaaGreatDoor.lex
open Go.RowKit Go.Tre Go.Shelf
attribute [local go_sem] Oper.semAt_some
theorem hasPrefix (x z : ByteArray) (is : Bool) (w : World) (h : Lib.hasPrefix x.data.toList z.data.toList = is) :
    Calls Tryz.prog 58 #[.string x, .string z] w fun e w' => e = .returned (.bool is) ∧ w = w' := by
  refine (Tryz.strings_HasPrefix x z w).mono ?_
  rintro e w' ⟨rfl, rfl⟩
  exact ⟨by rw [h], rfl⟩
theorem sym_none {l : List UInt8} {xs : List ByteArray} (hS : xs.map (·.data.toList) = fieldsS [] (⟨#[45, 62, 32, 60, 45, 32, 58, 62, 32, 46, 46, 32, 123, 60, 32, 62, 125, 32, 40, 32, 41, 32, 59, 32, 58, 32, 61, 32, 60, 32, 62, 32, 43, 32, 45, 32, 42, 32, 47, 32, 44, 32, 35]⟩ : ByteArray).data.toList) (hp : ∀ y ∈ xs, Lib.hasPrefix l y.data.toList = false) : (symbolsS.find? fun y => y.isPrefixOf l) = none := by
  have e : fieldsS [] (⟨#[45, 62, 32, 60, 45, 32, 58, 62, 32, 46, 46, 32, 123, 60, 32, 62, 125, 32, 40, 32, 41, 32, 59, 32, 58, 32, 61, 32, 60, 32, 62, 32, 43, 32, 45, 32, 42, 32, 47, 32, 44, 32, 35]⟩ : ByteArray).data.toList = symbolsS := by decide
  rw [e] at hS
  rw [← hS, List.find?_eq_none]
  intro y hy
  obtain ⟨z, hz, rfl⟩ := List.mem_map.1 hy
  have := hp z hz
  unfold Lib.hasPrefix at this
  simp [this]
theorem sym_some {l : List UInt8} {p : List ByteArray} {y : ByteArray} {r : List (List UInt8)} (hS : (p ++ [y]).map (·.data.toList) ++ r = fieldsS [] (⟨#[45, 62, 32, 60, 45, 32, 58, 62, 32, 46, 46, 32, 123, 60, 32, 62, 125, 32, 40, 32, 41, 32, 59, 32, 58, 32, 61, 32, 60, 32, 62, 32, 43, 32, 45, 32, 42, 32, 47, 32, 44, 32, 35]⟩ : ByteArray).data.toList) (hp : ∀ z ∈ p, Lib.hasPrefix l z.data.toList = false) (hy : Lib.hasPrefix l y.data.toList = true) :
    (symbolsS.find? fun y => y.isPrefixOf l) = some y.data.toList := by
  have e : fieldsS [] (⟨#[45, 62, 32, 60, 45, 32, 58, 62, 32, 46, 46, 32, 123, 60, 32, 62, 125, 32, 40, 32, 41, 32, 59, 32, 58, 32, 61, 32, 60, 32, 62, 32, 43, 32, 45, 32, 42, 32, 47, 32, 44, 32, 35]⟩ : ByteArray).data.toList = symbolsS := by decide
  rw [e] at hS
  rw [← hS, List.map_append, List.append_assoc, List.find?_append]
  have h1 : (p.map (·.data.toList)).find? (fun y => y.isPrefixOf l) = none := by
    rw [List.find?_eq_none]
    intro z hz
    obtain ⟨z', hz', rfl⟩ := List.mem_map.1 hz
    have := hp z' hz'
    unfold Lib.hasPrefix at this
    simp [this]
  unfold Lib.hasPrefix at hy
  rw [h1, Option.none_or, List.map_singleton, List.singleton_append, List.find?_cons, hy]
theorem byte_ne {c d : UInt8} (h : c ≠ d) : ((c.toNat : Int) == (d.toNat : Int)) = false := by
  rw [beq_eq_false_iff_ne]
  intro e
  exact h (UInt8.toNat_inj.1 (by omega))
theorem nextS_sym {x : ByteArray} (h0 : 0 < x.size) (hw : wordLen x = 0) (h39 : x[0] ≠ 39) (h34 : x[0] ≠ 34) (hd : (x[0].toNat : Int) < 48 ∨ 57 < (x[0].toNat : Int)) :
    nextS x.data.toList = (symbolsS.find? fun y => y.isPrefixOf x.data.toList).map fun y => (⟨6, 0, 0, y⟩, y.length) := by
  have hw' : ¬ wordFrom true x.data.toList > 0 := by have : wordFrom true x.data.toList = 0 := hw; omega
  have hdd := drop_at x 0 h0
  rw [List.drop_zero] at hdd
  have hdig : ¬ isDig x[0] = true := by
    unfold isDig
    simp only [Bool.and_eq_true, decide_eq_true_eq]
    omega
  unfold nextS
  rw [if_neg hw', hdd]
  simp only
  rw [if_neg h39, if_neg hdig, if_neg h34]
set_option maxRecDepth 100000 in
set_option maxHeartbeats 8000000 in
theorem next_sym_lo (w0 : World) (rs : List Res) (b : Nat) (s x : ByteArray) (k : Nat) (w : World) (h : Mem w0 w (lexR b s k :: rs)) (hk : k ≤ s.size) (hs : s.size ≤ 4194304) (hx : x.data.toList = s.data.toList.drop k) (hm : MaxAt w0) (h0 : 0 < x.size) (hw : wordLen x = 0) (hsp : SpaceAt w0) (h39 : x[0] ≠ 39) (h34 : x[0] ≠ 34) (hd : (x[0].toNat : Int) < 48) :
    Calls Tryz.prog 32 #[.pointer (some ⟨b, 0, none⟩)] w (NextPost w0 rs b s k (nextS x.data.toList)) := by
  have HM0 := Tre.hid (((h.allocR (tokV 0 0 0 ⟨#[]⟩) 34).allocR #[.int .i64 0] 3).allocR #[.nilIface] 24)
  have HX := Tre.hid hx
  have hxs : x.size ≤ s.size := by
    have := congrArg List.length hx
    simp at this
    omega
  clear h hx
  have HMX := Tre.hid hm
  have HW0 := Tre.hid hw
  have HD0 := Tre.hid (drop_at x 0 h0)
  have hc255 := x[0].toNat_lt
  have e39 : ((x[0].toNat : Int) == 39) = false := byte_ne h39
  have e34 : ((x[0].toNat : Int) == 34) = false := byte_ne h34
  have HDN := Tre.hid (nextS_sym h0 HW0.out h39 h34 (by omega))
  have HSP := Tre.hid hsp
  clear hsp h39 h34
  clear hm hw
  refine calls_marks Tryz.func32 rfl ?_
  simp only [Tryz.ntmps32, List.size_toArray, List.length_cons, List.length_nil, Nat.reduceAdd, Nat.reduceSub, Array.replicate_succ, Array.replicate_zero, List.push_toArray, List.append_toArray, List.nil_append, List.cons_append]
  go_wp2_with fail
  refine (rest_is b s k x _ (lexAt HM0.out 3 rfl) hk (by omega) HX.out).mono ?_
  rintro e w1 ⟨rfl, mq⟩
  have M1 := HM0.out.quiet mq
  simp only [World.size_alloc] at M1
  have HM1 := Tre.hid M1
  obtain ⟨l0, l1⟩ := M1.two 3 rfl
  have hbl := World.block_lt_of_cell? w1 _ l0
  have htl := (Array.getElem?_eq_some_iff.1 (M1.heap 2 rfl)).1
  have t1 : w1.cell? ⟨w.heap.size, 1, none⟩ = some (.int .i64 0) := M1.cell 2 rfl 1 rfl
  have f1 := M1.free 2 rfl 1
  clear mq M1 HM0
  simp only at hbl
  go_wp2_with fail
  refine (word x _ (by omega)).mono ?_
  rintro e w2 ⟨rfl, rfl⟩
  rw [HW0.out, show ((0 : Nat) : Int) = 0 from rfl]
  have M2 := (HM1.out.setCell 2 rfl 1 (.int .i64 (k : Int))).allocR #[.string x] 9
  rw [World.size_setCell] at M2
  generalize hg : ((w1.setCell ⟨w.heap.size, 1, none⟩ (.int .i64 (k : Int))).alloc (.cells #[.string x] 9)) = w2 at M2 ⊢
  have M2' : Mem w0 w2 (nextL w1.heap.size w.heap.size 0 k 0 ⟨#[]⟩ 0 .nilIface x b s k rs) := M2
  have HM2 := Tre.hid M2'
  have n1 := M2'.cell 2 rfl 0 rfl
  have n2 := M2'.free 2 rfl 0
  have s1 := M2'.cell 0 rfl 0 rfl
  have hne : w1.heap.size ≠ w.heap.size + 1 := by have := HM1.out.heap 1 rfl; intro e; rw [← e] at this; simp at this
  clear hg M2 M2' t1 f1 l0 l1 HM1
  go_wp2_with fail
  have M3 := HM2.out.setCell 2 rfl 0 (.int .i64 0)
  generalize hg : w2.setCell ⟨w.heap.size + 1, 0, none⟩ (.int .i64 0) = w3 at M3 ⊢
  have HM3 : Hid (Mem w0 w3 (nextL w1.heap.size w.heap.size 0 k 0 ⟨#[]⟩ 0 .nilIface x b s k rs)) := M3
  clear hg M3 HM2 n1 n2 s1
  refine (fieldsSeq _ _).mono ?_
  rintro e w4 ⟨rfl, rfl⟩
  have M4 := HM3.out.alloc (.cells #[.string ⟨#[45, 62, 32, 60, 45, 32, 58, 62, 32, 46, 46, 32, 123, 60, 32, 62, 125, 32, 40, 32, 41, 32, 59, 32, 58, 32, 61, 32, 60, 32, 62, 32, 43, 32, 45, 32, 42, 32, 47, 32, 44, 32, 35]⟩] 9)
  have hbx : (w3.alloc (.cells #[.string ⟨#[45, 62, 32, 60, 45, 32, 58, 62, 32, 46, 46, 32, 123, 60, 32, 62, 125, 32, 40, 32, 41, 32, 59, 32, 58, 32, 61, 32, 60, 32, 62, 32, 43, 32, 45, 32, 42, 32, 47, 32, 44, 32, 35]⟩] 9)).cell? ⟨w3.heap.size, 0, none⟩ = some (.string ⟨#[45, 62, 32, 60, 45, 32, 58, 62, 32, 46, 46, 32, 123, 60, 32, 62, 125, 32, 40, 32, 41, 32, 59, 32, 58, 32, 61, 32, 60, 32, 62, 32, 43, 32, 45, 32, 42, 32, 47, 32, 44, 32, 35]⟩) := by simp
  have hsz : (w3.alloc (.cells #[.string ⟨#[45, 62, 32, 60, 45, 32, 58, 62, 32, 46, 46, 32, 123, 60, 32, 62, 125, 32, 40, 32, 41, 32, 59, 32, 58, 32, 61, 32, 60, 32, 62, 32, 43, 32, 45, 32, 42, 32, 47, 32, 44, 32, 35]⟩] 9)).heap.size = w3.heap.size + 1 := World.size_alloc ..
  obtain ⟨Bs, hBs⟩ : ∃ Bs, Bs = w3.heap.size := ⟨_, rfl⟩
  rw [← hBs] at hbx hsz ⊢
  generalize hg : w3.alloc (.cells #[.string ⟨#[45, 62, 32, 60, 45, 32, 58, 62, 32, 46, 46, 32, 123, 60, 32, 62, 125, 32, 40, 32, 41, 32, 59, 32, 58, 32, 61, 32, 60, 32, 62, 32, 43, 32, 45, 32, 42, 32, 47, 32, 44, 32, 35]⟩] 9) = w4 at M4 hbx hsz ⊢
  have HM4 := Tre.hid M4
  have HBX := Tre.hid hbx
  have HSZ := Tre.hid hsz
  have hBl : Bs < w4.heap.size := by omega
  clear hg M4 HM3 hbx hsz hBs
  go_wp2_with fail
  refine (wpIn_wide (n := 3)).1 ?_
  refine wpIn_rangeFunc_ownF (α := ByteArray) (w := w4) (F := Fence.wide) (n := 3) rfl (by omega) (gf := 81) (lb := #[.pointer (some ⟨Bs, 0, none⟩)]) rfl trivial (enters_of Tryz.func81 (by kernel_rfl) rfl)
    (fields_stops 2 (by omega) Bs ⟨#[45, 62, 32, 60, 45, 32, 58, 62, 32, 46, 46, 32, 123, 60, 32, 62, 125, 32, 40, 32, 41, 32, 59, 32, 58, 32, 61, 32, 60, 32, 62, 32, 43, 32, 45, 32, 42, 32, 47, 32, 44, 32, 35]⟩ (by decide) (by decide) w4 hBl (HSP.out.lt_size HM4.out.size) HBX.out (HSP.out.below HM4.out.below)) belowK_t (belowK_b (Nat.le_refl _)) (Below.refl _ _) (fun _ => rfl)
    (fun pre W => MemB w4.heap.size w0 W (nextL w1.heap.size w.heap.size 0 k 0 ⟨#[]⟩ 0 .nilIface x b s k rs) ∧ Hid (∀ y ∈ pre, Lib.hasPrefix x.data.toList y.data.toList = false))
    (fun c pre W => c = .ret ∧ ∃ (p : List ByteArray) (y : ByteArray), Hid (pre = p ++ [y] ∧ (∀ z ∈ p, Lib.hasPrefix x.data.toList z.data.toList = false) ∧ Lib.hasPrefix x.data.toList y.data.toList = true) ∧ MemB w4.heap.size w0 W (nextL w1.heap.size w.heap.size 6 k 0 y (y.size : Int) .nilIface x b s k rs))
    (OwnFrom.and (MemB.own _ _ _) (ownFrom_pure _ _)) (fun c s' W W' row h hg hr => by obtain ⟨hc, p, y, hp, hm⟩ := h; exact ⟨hc, p, y, hp, hm.grown hg (fun r e => (hr r e).1)⟩) ⟨MemB.of HM4.out, by intro y hy; cases hy⟩ ?a1 ?assign ?body ?done ?stop
  case assign =>
    intro l z W K hK
    gi_wp2
    exact hK
  case body =>
    rintro l pre z W ⟨hM, hp⟩ _
    have HMW := Tre.hid hM.mem
    have s1 : W.cell? ⟨w1.heap.size, 0, none⟩ = some (.string x) := hM.mem.cell 0 rfl 0 rfl
    cases hpre : Lib.hasPrefix x.data.toList z.data.toList
    · have HPR := Tre.hid hpre
      clear hpre
      gi_wp2_with (refine ⟨trivial, ?_⟩; gi_at_call 58; refine (CallsIn.inRound l (callsIn_wide.2 (hasPrefix x z false _ HPR.out))).mono ?_; rintro e w' ⟨rfl, rfl⟩)
      exact ⟨KeepsOthers.refl _, Below.refl _ _, hM, by
        intro y hy
        rcases List.mem_append.1 hy with h | h
        · exact hp.out y h
        · rw [List.mem_singleton.1 h]; exact HPR.out⟩
    · have HPR := Tre.hid hpre
      have t0 := HMW.out.cell 3 rfl 0 rfl
      have f0 := HMW.out.free 3 rfl 0
      have t1 := HMW.out.cell 3 rfl 1 rfl
      have f1 := HMW.out.free 3 rfl 1
      have t2 := HMW.out.cell 3 rfl 2 rfl
      have f2 := HMW.out.free 3 rfl 2
      have t3 := HMW.out.cell 3 rfl 3 rfl
      have f3 := HMW.out.free 3 rfl 3
      have n1 := HMW.out.cell 2 rfl 0 rfl
      have n2 := HMW.out.free 2 rfl 0
      have v1 := HMW.out.cell 1 rfl 0 rfl
      have v2 := HMW.out.free 1 rfl 0
      have HBASE := hM
      clear hpre hM
      gi_wp2_with (refine ⟨trivial, ?_⟩; gi_at_call 58; refine (CallsIn.inRound l (callsIn_wide.2 (hasPrefix x z true _ HPR.out))).mono ?_; rintro e w' ⟨rfl, rfl⟩)
      exact ⟨((((((((KeepsOthers.setCell _ _ _).trans (KeepsOthers.setCell _ _ _)).trans (KeepsOthers.setCell _ _ _)).trans (KeepsOthers.setCell _ _ _)).trans (KeepsOthers.setCell _ _ _)).trans (KeepsOthers.setCell _ _ _)).trans (KeepsOthers.setCell _ _ _)).trans (KeepsOthers.setCell _ _ _)), rfl, pre, z, ⟨rfl, hp.out, HPR.out⟩, ⟨((((((((HMW.out.setCell 3 rfl 0 (.int .i64 6)).setCell 3 rfl 3 (.string z)).setCell 3 rfl 0 (.int .i64 6)).setCell 3 rfl 1 (.int .i64 k)).setCell 3 rfl 2 (.int .i64 0)).setCell 3 rfl 3 (.string z)).setCell 2 rfl 0 (.int .i64 z.size)).setCell 1 rfl 0 .nilIface), fun r hr b' hb => HBASE.low_same (rs' := nextL w1.heap.size w.heap.size 6 k 0 z (z.size : Int) .nilIface x b s k rs) rfl hr hb, HBASE.base⟩⟩
  case done =>
    rintro D xs W hD hS ⟨hM, hp⟩ hK
    have HDM : Hid (nextS x.data.toList = none) := by
      show _ = _
      rw [HDN.out, sym_none hS hp.out]; rfl
    have HMW : Hid (Mem w0 W (nextL w1.heap.size w.heap.size 0 k 0 ⟨#[]⟩ 0 .nilIface x b s k (objR D (.deferred (some [])) :: rs))) := (hM.withObj hD hK).perm (List.perm_middle (l₁ := [_, _, _, _, _])).symm
    clear hM hp hS hK HDN
    go_wp2_with fail
    refine wp_region_noPanic ?_
    refine wp_region_keep (S := (fun w' => (w'.cell? ⟨w.heap.size, 0, none⟩ = some (.int .i64 0) ∧ w'.cell? ⟨w.heap.size, 1, none⟩ = some (.int .i64 k) ∧ w'.cell? ⟨w.heap.size, 2, none⟩ = some (.int .i64 0) ∧ w'.cell? ⟨w.heap.size, 3, none⟩ = some (.string ⟨#[]⟩)) ∧ w'.cell? ⟨w.heap.size + 1, 0, none⟩ = some (.int .i64 0))) [3, 4, 5] (by kernel_rfl) ?_ (fun hH0 => ?_)
    · exact ⟨⟨HMW.out.cell 3 rfl 0 rfl, HMW.out.cell 3 rfl 1 rfl, HMW.out.cell 3 rfl 2 rfl, HMW.out.cell 3 rfl 3 rfl⟩, HMW.out.cell 2 rfl 0 rfl⟩
    have H0 := Tre.hid HMW.out.drew
    generalize hq : W.drew = wq0 at H0 hH0 ⊢
    clear hq
    refine lPure (i := 1) (some 132) (v := ?_) (by rfl) (by kernel_rfl) (by kernel_rfl) (by kernel_rfl) (by kernel_rfl) (fun _ _ _ h => h) (by rfl) ?_ (keep_of hH0) ?_
    rotate_left
    · intro w; simp only [List.getElem?_toArray, List.getElem?_cons_succ, List.getElem?_cons_zero, Option.map_some, Option.some.injEq]; (first | (go_simp; done) | (go_simp; with_reducible rfl))
    try simp only [Act.put, List.setIfInBounds_toArray, List.set_cons_zero, List.set_cons_succ]
    refine lTake (i := 0) (some 131) (v := ?_) (by rfl) (by kernel_rfl) (by kernel_rfl) (by kernel_rfl) (by kernel_rfl) (by kernel_rfl) (fun _ _ _ h => h) (by rfl) ?_ hH0 ?_
    rotate_left
    · intro w hSw; (try dsimp only at hSw); simp only [List.getElem?_toArray, List.getElem?_cons_zero, Option.map_some, Option.some.injEq]; (first | (go_simp; done) | (go_simp; with_reducible rfl))
    try simp only [Act.put, List.setIfInBounds_toArray, List.set_cons_zero, List.set_cons_succ]
    refine lOne 2 (by kernel_rfl) (LStep.op (fun K hK => ?_))
    go_simp
    refine (fail b s k wq0 (lexAt H0.out 4 rfl)).mono ?_
    rintro e w' ⟨rfl, rfl⟩
    have H9 := errNew (k := k) H0.out
    generalize hev : wq0.heap.size = ev at H9 ⊢
    generalize hw : wq0.alloc (.cells #[.int .i64 (k : Int), .int .i64 5] 48) = wq1 at H9 ⊢
    have H1 := Tre.hid H9
    clear H9 hw hev
    (try dsimp only)
    refine hK.out _ _ ?_ (fun hH1 => ?_)
    · exact ⟨⟨H1.out.cell 4 rfl 0 rfl, H1.out.cell 4 rfl 1 rfl, H1.out.cell 4 rfl 2 rfl, H1.out.cell 4 rfl 3 rfl⟩, H1.out.cell 3 rfl 0 rfl⟩
    clear hK K hH0
    try simp only [Act.put, List.setIfInBounds_toArray, List.set_cons_zero, List.set_cons_succ]
    refine lOne 3 (by kernel_rfl) (LFall.op (by kernel_rfl) (fun K hK => ?_))
    have g0 := H1.out.cell 4 rfl 0 rfl
    have g1 := H1.out.cell 4 rfl 1 rfl
    have g2 := H1.out.cell 4 rfl 2 rfl
    have g3 := H1.out.cell 4 rfl 3 rfl
    have f0 := H1.out.free 4 rfl 0
    have f1 := H1.out.free 4 rfl 1
    have f2 := H1.out.free 4 rfl 2
    have f3 := H1.out.free 4 rfl 3
    have H9 := ((((H1.out.setCell 4 rfl 0 (.int .i64 0)).setCell 4 rfl 1 (.int .i64 k)).setCell 4 rfl 2 (.int .i64 0)).setCell 4 rfl 3 (.string ⟨#[]⟩))
    go_simp
    generalize hw : ((((wq1.setCell ⟨w.heap.size, 0, none⟩ (.int .i64 0)).setCell ⟨w.heap.size, 1, none⟩ (.int .i64 k)).setCell ⟨w.heap.size, 2, none⟩ (.int .i64 0)).setCell ⟨w.heap.size, 3, none⟩ (.string ⟨#[]⟩)) = wq2 at H9 ⊢
    have H2 := Tre.hid H9
    clear hw H9 g0 g1 g2 g3 f0 f1 f2 f3
    refine hK.out _ _ ?_
    clear hK K hH1
    try simp only [Act.put, List.setIfInBounds_toArray, List.set_cons_zero, List.set_cons_succ]
    refine lOne 4 (by kernel_rfl) (LFall.op (by kernel_rfl) (fun K hK => ?_))
    have g0 := H2.out.cell 3 rfl 0 rfl
    have f0 := H2.out.free 3 rfl 0
    have H9 := H2.out.setCell 3 rfl 0 (.int .i64 0)
    go_simp
    generalize hw : wq2.setCell ⟨w.heap.size + 1, 0, none⟩ (.int .i64 0) = wq3 at H9 ⊢
    have H3 := Tre.hid H9
    clear hw H9 g0 f0
    refine hK.out _ _ ?_
    clear hK K
    try simp only [Act.put, List.setIfInBounds_toArray, List.set_cons_zero, List.set_cons_succ]
    refine lOne 5 (by kernel_rfl) (LFall.op (by kernel_rfl) (fun K hK => ?_))
    have g0 := H3.out.cell 2 rfl 0 rfl
    have f0 := H3.out.free 2 rfl 0
    have H9 := H3.out.setCell 2 rfl 0 (.iface 44 (.pointer (some ⟨ev, 0, none⟩)))
    go_simp
    generalize hw : wq3.setCell ⟨w.heap.size + 1 + 1, 0, none⟩ (.iface 44 (.pointer (some ⟨ev, 0, none⟩))) = wq4 at H9 ⊢
    have H4 := Tre.hid H9
    clear hw H9 g0 f0
    refine hK.out _ _ ?_
    clear hK K
    try simp only [Act.put, List.setIfInBounds_toArray, List.set_cons_zero, List.set_cons_succ]
    refine lDone (by kernel_rfl) ?_
    refine NoPanic.normal ?_
    go_wp2_with fail
    have H9 : Mem w0 wq4 (errR [ev] (.iface 44 (.pointer (some ⟨ev, 0, none⟩))) k 5 :: nextL w1.heap.size w.heap.size 0 k 0 ⟨#[]⟩ 0 (.iface 44 (.pointer (some ⟨ev, 0, none⟩))) x b s k (objR D (.deferred (some [])) :: rs)) := H4.out
    have H10 := H9.putObj 6 rfl (.deferred none)
    refine bodyPostM_ret1 rfl (H9.at_ 6 rfl) (next_results _ w.heap.size 0 k 0 0 ⟨#[]⟩ (.iface 44 (.pointer (some ⟨ev, 0, none⟩))) _ rfl rfl rfl (H10.heap 4 rfl) (H10.heap 3 rfl) (H10.heap 2 rfl)) ?_
    exact .inr ⟨HDM.out, _, _, _, _, _, _, [ev], rfl, (((((H10.del 1).del 1).del 1).del 1).del 2)⟩
  case stop =>
    rintro D c pre W hD ⟨r, hr⟩ ⟨rfl, p, y, hp, hM⟩ hK
    have HDM : Hid (nextS x.data.toList = some (⟨6, 0, 0, y.data.toList⟩, y.size)) := by
      show _ = _
      rw [HDN.out, sym_some (p := p) (y := y) (r := r) (by rw [← hp.out.1]; exact hr) hp.out.2.1 hp.out.2.2]; rfl
    have H9 : Mem w0 W (nextL w1.heap.size w.heap.size 6 k 0 y (y.size : Int) .nilIface x b s k (objR D (.deferred (some [])) :: rs)) := (hM.withObj hD hK).perm (List.perm_middle (l₁ := [_, _, _, _, _])).symm
    have HH9 := Tre.hid H9
    clear hM hp hr hK HDN H9
    gi_wp2
    have H10 := HH9.out.putObj 5 rfl (.deferred none)
    refine bodyPostM_ret1 rfl (HH9.out.at_ 5 rfl) (next_results _ w.heap.size 6 k 0 y.size y .nilIface _ rfl rfl rfl (H10.heap 3 rfl) (H10.heap 2 rfl) (H10.heap 1 rfl)) ?_
    exact .inl ⟨⟨6, 0, 0, y.data.toList⟩, y.size, y, HDM.out, rfl, rfl, (((((H10.del 0).del 0).del 0).del 0).del 1)⟩
set_option maxRecDepth 100000 in
set_option maxHeartbeats 8000000 in
theorem next_sym_hi (w0 : World) (rs : List Res) (b : Nat) (s x : ByteArray) (k : Nat) (w : World) (h : Mem w0 w (lexR b s k :: rs)) (hk : k ≤ s.size) (hs : s.size ≤ 4194304) (hx : x.data.toList = s.data.toList.drop k) (hm : MaxAt w0) (h0 : 0 < x.size) (hw : wordLen x = 0) (hsp : SpaceAt w0) (h39 : x[0] ≠ 39) (h34 : x[0] ≠ 34) (hd : 57 < (x[0].toNat : Int)) :
    Calls Tryz.prog 32 #[.pointer (some ⟨b, 0, none⟩)] w (NextPost w0 rs b s k (nextS x.data.toList)) := by
  have HM0 := Tre.hid (((h.allocR (tokV 0 0 0 ⟨#[]⟩) 34).allocR #[.int .i64 0] 3).allocR #[.nilIface] 24)
  have HX := Tre.hid hx
  have hxs : x.size ≤ s.size := by
    have := congrArg List.length hx
    simp at this
    omega
  clear h hx
  have HMX := Tre.hid hm
  have HW0 := Tre.hid hw
  have HD0 := Tre.hid (drop_at x 0 h0)
  have hc255 := x[0].toNat_lt
  have e39 : ((x[0].toNat : Int) == 39) = false := byte_ne h39
  have e34 : ((x[0].toNat : Int) == 34) = false := byte_ne h34
  have HDN := Tre.hid (nextS_sym h0 HW0.out h39 h34 (by omega))
  have HSP := Tre.hid hsp
  clear hsp h39 h34
  clear hm hw
  refine calls_marks Tryz.func32 rfl ?_
  simp only [Tryz.ntmps32, List.size_toArray, List.length_cons, List.length_nil, Nat.reduceAdd, Nat.reduceSub, Array.replicate_succ, Array.replicate_zero, List.push_toArray, List.append_toArray, List.nil_append, List.cons_append]
  go_wp2_with fail
  refine (rest_is b s k x _ (lexAt HM0.out 3 rfl) hk (by omega) HX.out).mono ?_
  rintro e w1 ⟨rfl, mq⟩
  have M1 := HM0.out.quiet mq
  simp only [World.size_alloc] at M1
  have HM1 := Tre.hid M1
  obtain ⟨l0, l1⟩ := M1.two 3 rfl
  have hbl := World.block_lt_of_cell? w1 _ l0
  have htl := (Array.getElem?_eq_some_iff.1 (M1.heap 2 rfl)).1
  have t1 : w1.cell? ⟨w.heap.size, 1, none⟩ = some (.int .i64 0) := M1.cell 2 rfl 1 rfl
  have f1 := M1.free 2 rfl 1
  clear mq M1 HM0
  simp only at hbl
  go_wp2_with fail
  refine (word x _ (by omega)).mono ?_
  rintro e w2 ⟨rfl, rfl⟩
  rw [HW0.out, show ((0 : Nat) : Int) = 0 from rfl]
  have M2 := (HM1.out.setCell 2 rfl 1 (.int .i64 (k : Int))).allocR #[.string x] 9
  rw [World.size_setCell] at M2
  generalize hg : ((w1.setCell ⟨w.heap.size, 1, none⟩ (.int .i64 (k : Int))).alloc (.cells #[.string x] 9)) = w2 at M2 ⊢
  have M2' : Mem w0 w2 (nextL w1.heap.size w.heap.size 0 k 0 ⟨#[]⟩ 0 .nilIface x b s k rs) := M2
  have HM2 := Tre.hid M2'
  have n1 := M2'.cell 2 rfl 0 rfl
  have n2 := M2'.free 2 rfl 0
  have s1 := M2'.cell 0 rfl 0 rfl
  have hne : w1.heap.size ≠ w.heap.size + 1 := by have := HM1.out.heap 1 rfl; intro e; rw [← e] at this; simp at this
  clear hg M2 M2' t1 f1 l0 l1 HM1
  go_wp2_with fail
  have M3 := HM2.out.setCell 2 rfl 0 (.int .i64 0)
  generalize hg : w2.setCell ⟨w.heap.size + 1, 0, none⟩ (.int .i64 0) = w3 at M3 ⊢
  have HM3 : Hid (Mem w0 w3 (nextL w1.heap.size w.heap.size 0 k 0 ⟨#[]⟩ 0 .nilIface x b s k rs)) := M3
  clear hg M3 HM2 n1 n2 s1
  refine (fieldsSeq _ _).mono ?_
  rintro e w4 ⟨rfl, rfl⟩
  have M4 := HM3.out.alloc (.cells #[.string ⟨#[45, 62, 32, 60, 45, 32, 58, 62, 32, 46, 46, 32, 123, 60, 32, 62, 125, 32, 40, 32, 41, 32, 59, 32, 58, 32, 61, 32, 60, 32, 62, 32, 43, 32, 45, 32, 42, 32, 47, 32, 44, 32, 35]⟩] 9)
  have hbx : (w3.alloc (.cells #[.string ⟨#[45, 62, 32, 60, 45, 32, 58, 62, 32, 46, 46, 32, 123, 60, 32, 62, 125, 32, 40, 32, 41, 32, 59, 32, 58, 32, 61, 32, 60, 32, 62, 32, 43, 32, 45, 32, 42, 32, 47, 32, 44, 32, 35]⟩] 9)).cell? ⟨w3.heap.size, 0, none⟩ = some (.string ⟨#[45, 62, 32, 60, 45, 32, 58, 62, 32, 46, 46, 32, 123, 60, 32, 62, 125, 32, 40, 32, 41, 32, 59, 32, 58, 32, 61, 32, 60, 32, 62, 32, 43, 32, 45, 32, 42, 32, 47, 32, 44, 32, 35]⟩) := by simp
  have hsz : (w3.alloc (.cells #[.string ⟨#[45, 62, 32, 60, 45, 32, 58, 62, 32, 46, 46, 32, 123, 60, 32, 62, 125, 32, 40, 32, 41, 32, 59, 32, 58, 32, 61, 32, 60, 32, 62, 32, 43, 32, 45, 32, 42, 32, 47, 32, 44, 32, 35]⟩] 9)).heap.size = w3.heap.size + 1 := World.size_alloc ..
  obtain ⟨Bs, hBs⟩ : ∃ Bs, Bs = w3.heap.size := ⟨_, rfl⟩
  rw [← hBs] at hbx hsz ⊢
  generalize hg : w3.alloc (.cells #[.string ⟨#[45, 62, 32, 60, 45, 32, 58, 62, 32, 46, 46, 32, 123, 60, 32, 62, 125, 32, 40, 32, 41, 32, 59, 32, 58, 32, 61, 32, 60, 32, 62, 32, 43, 32, 45, 32, 42, 32, 47, 32, 44, 32, 35]⟩] 9) = w4 at M4 hbx hsz ⊢
  have HM4 := Tre.hid M4
  have HBX := Tre.hid hbx
  have HSZ := Tre.hid hsz
  have hBl : Bs < w4.heap.size := by omega
  clear hg M4 HM3 hbx hsz hBs
  go_wp2_with fail
  refine (wpIn_wide (n := 3)).1 ?_
  refine wpIn_rangeFunc_ownF (α := ByteArray) (w := w4) (F := Fence.wide) (n := 3) rfl (by omega) (gf := 81) (lb := #[.pointer (some ⟨Bs, 0, none⟩)]) rfl trivial (enters_of Tryz.func81 (by kernel_rfl) rfl)
    (fields_stops 2 (by omega) Bs ⟨#[45, 62, 32, 60, 45, 32, 58, 62, 32, 46, 46, 32, 123, 60, 32, 62, 125, 32, 40, 32, 41, 32, 59, 32, 58, 32, 61, 32, 60, 32, 62, 32, 43, 32, 45, 32, 42, 32, 47, 32, 44, 32, 35]⟩ (by decide) (by decide) w4 hBl (HSP.out.lt_size HM4.out.size) HBX.out (HSP.out.below HM4.out.below)) belowK_t (belowK_b (Nat.le_refl _)) (Below.refl _ _) (fun _ => rfl)
    (fun pre W => MemB w4.heap.size w0 W (nextL w1.heap.size w.heap.size 0 k 0 ⟨#[]⟩ 0 .nilIface x b s k rs) ∧ Hid (∀ y ∈ pre, Lib.hasPrefix x.data.toList y.data.toList = false))
    (fun c pre W => c = .ret ∧ ∃ (p : List ByteArray) (y : ByteArray), Hid (pre = p ++ [y] ∧ (∀ z ∈ p, Lib.hasPrefix x.data.toList z.data.toList = false) ∧ Lib.hasPrefix x.data.toList y.data.toList = true) ∧ MemB w4.heap.size w0 W (nextL w1.heap.size w.heap.size 6 k 0 y (y.size : Int) .nilIface x b s k rs))
    (OwnFrom.and (MemB.own _ _ _) (ownFrom_pure _ _)) (fun c s' W W' row h hg hr => by obtain ⟨hc, p, y, hp, hm⟩ := h; exact ⟨hc, p, y, hp, hm.grown hg (fun r e => (hr r e).1)⟩) ⟨MemB.of HM4.out, by intro y hy; cases hy⟩ ?a1 ?assign ?body ?done ?stop
  case assign =>
    intro l z W K hK
    gi_wp2
    exact hK
  case body =>
    rintro l pre z W ⟨hM, hp⟩ _
    have HMW := Tre.hid hM.mem
    have s1 : W.cell? ⟨w1.heap.size, 0, none⟩ = some (.string x) := hM.mem.cell 0 rfl 0 rfl
    cases hpre : Lib.hasPrefix x.data.toList z.data.toList
    · have HPR := Tre.hid hpre
      clear hpre
      gi_wp2_with (refine ⟨trivial, ?_⟩; gi_at_call 58; refine (CallsIn.inRound l (callsIn_wide.2 (hasPrefix x z false _ HPR.out))).mono ?_; rintro e w' ⟨rfl, rfl⟩)
      exact ⟨KeepsOthers.refl _, Below.refl _ _, hM, by
        intro y hy
        rcases List.mem_append.1 hy with h | h
        · exact hp.out y h
        · rw [List.mem_singleton.1 h]; exact HPR.out⟩
    · have HPR := Tre.hid hpre
      have t0 := HMW.out.cell 3 rfl 0 rfl
      have f0 := HMW.out.free 3 rfl 0
      have t1 := HMW.out.cell 3 rfl 1 rfl
      have f1 := HMW.out.free 3 rfl 1
      have t2 := HMW.out.cell 3 rfl 2 rfl
      have f2 := HMW.out.free 3 rfl 2
      have t3 := HMW.out.cell 3 rfl 3 rfl
      have f3 := HMW.out.free 3 rfl 3
      have n1 := HMW.out.cell 2 rfl 0 rfl
      have n2 := HMW.out.free 2 rfl 0
      have v1 := HMW.out.cell 1 rfl 0 rfl
      have v2 := HMW.out.free 1 rfl 0
      have HBASE := hM
      clear hpre hM
      gi_wp2_with (refine ⟨trivial, ?_⟩; gi_at_call 58; refine (CallsIn.inRound l (callsIn_wide.2 (hasPrefix x z true _ HPR.out))).mono ?_; rintro e w' ⟨rfl, rfl⟩)
      exact ⟨((((((((KeepsOthers.setCell _ _ _).trans (KeepsOthers.setCell _ _ _)).trans (KeepsOthers.setCell _ _ _)).trans (KeepsOthers.setCell _ _ _)).trans (KeepsOthers.setCell _ _ _)).trans (KeepsOthers.setCell _ _ _)).trans (KeepsOthers.setCell _ _ _)).trans (KeepsOthers.setCell _ _ _)), rfl, pre, z, ⟨rfl, hp.out, HPR.out⟩, ⟨((((((((HMW.out.setCell 3 rfl 0 (.int .i64 6)).setCell 3 rfl 3 (.string z)).setCell 3 rfl 0 (.int .i64 6)).setCell 3 rfl 1 (.int .i64 k)).setCell 3 rfl 2 (.int .i64 0)).setCell 3 rfl 3 (.string z)).setCell 2 rfl 0 (.int .i64 z.size)).setCell 1 rfl 0 .nilIface), fun r hr b' hb => HBASE.low_same (rs' := nextL w1.heap.size w.heap.size 6 k 0 z (z.size : Int) .nilIface x b s k rs) rfl hr hb, HBASE.base⟩⟩
  case done =>
    rintro D xs W hD hS ⟨hM, hp⟩ hK
    have HDM : Hid (nextS x.data.toList = none) := by
      show _ = _
      rw [HDN.out, sym_none hS hp.out]; rfl
    have HMW : Hid (Mem w0 W (nextL w1.heap.size w.heap.size 0 k 0 ⟨#[]⟩ 0 .nilIface x b s k (objR D (.deferred (some [])) :: rs))) := (hM.withObj hD hK).perm (List.perm_middle (l₁ := [_, _, _, _, _])).symm
    clear hM hp hS hK HDN
    go_wp2_with fail
    refine wp_region_noPanic ?_
    refine wp_region_keep (S := (fun w' => (w'.cell? ⟨w.heap.size, 0, none⟩ = some (.int .i64 0) ∧ w'.cell? ⟨w.heap.size, 1, none⟩ = some (.int .i64 k) ∧ w'.cell? ⟨w.heap.size, 2, none⟩ = some (.int .i64 0) ∧ w'.cell? ⟨w.heap.size, 3, none⟩ = some (.string ⟨#[]⟩)) ∧ w'.cell? ⟨w.heap.size + 1, 0, none⟩ = some (.int .i64 0))) [3, 4, 5] (by kernel_rfl) ?_ (fun hH0 => ?_)
    · exact ⟨⟨HMW.out.cell 3 rfl 0 rfl, HMW.out.cell 3 rfl 1 rfl, HMW.out.cell 3 rfl 2 rfl, HMW.out.cell 3 rfl 3 rfl⟩, HMW.out.cell 2 rfl 0 rfl⟩
    have H0 := Tre.hid HMW.out.drew
    generalize hq : W.drew = wq0 at H0 hH0 ⊢
    clear hq
    refine lPure (i := 1) (some 132) (v := ?_) (by rfl) (by kernel_rfl) (by kernel_rfl) (by kernel_rfl) (by kernel_rfl) (fun _ _ _ h => h) (by rfl) ?_ (keep_of hH0) ?_
    rotate_left
    · intro w; simp only [List.getElem?_toArray, List.getElem?_cons_succ, List.getElem?_cons_zero, Option.map_some, Option.some.injEq]; (first | (go_simp; done) | (go_simp; with_reducible rfl))
    try simp only [Act.put, List.setIfInBounds_toArray, List.set_cons_zero, List.set_cons_succ]
    refine lTake (i := 0) (some 131) (v := ?_) (by rfl) (by kernel_rfl) (by kernel_rfl) (by kernel_rfl) (by kernel_rfl) (by kernel_rfl) (fun _ _ _ h => h) (by rfl) ?_ hH0 ?_
    rotate_left
    · intro w hSw; (try dsimp only at hSw); simp only [List.getElem?_toArray, List.getElem?_cons_zero, Option.map_some, Option.some.injEq]; (first | (go_simp; done) | (go_simp; with_reducible rfl))
    try simp only [Act.put, List.setIfInBounds_toArray, List.set_cons_zero, List.set_cons_succ]
    refine lOne 2 (by kernel_rfl) (LStep.op (fun K hK => ?_))
    go_simp
    refine (fail b s k wq0 (lexAt H0.out 4 rfl)).mono ?_
    rintro e w' ⟨rfl, rfl⟩
    have H9 := errNew (k := k) H0.out
    generalize hev : wq0.heap.size = ev at H9 ⊢
    generalize hw : wq0.alloc (.cells #[.int .i64 (k : Int), .int .i64 5] 48) = wq1 at H9 ⊢
    have H1 := Tre.hid H9
    clear H9 hw hev
    (try dsimp only)
    refine hK.out _ _ ?_ (fun hH1 => ?_)
    · exact ⟨⟨H1.out.cell 4 rfl 0 rfl, H1.out.cell 4 rfl 1 rfl, H1.out.cell 4 rfl 2 rfl, H1.out.cell 4 rfl 3 rfl⟩, H1.out.cell 3 rfl 0 rfl⟩
    clear hK K hH0
    try simp only [Act.put, List.setIfInBounds_toArray, List.set_cons_zero, List.set_cons_succ]
    refine lOne 3 (by kernel_rfl) (LFall.op (by kernel_rfl) (fun K hK => ?_))
    have g0 := H1.out.cell 4 rfl 0 rfl
    have g1 := H1.out.cell 4 rfl 1 rfl
    have g2 := H1.out.cell 4 rfl 2 rfl
    have g3 := H1.out.cell 4 rfl 3 rfl
    have f0 := H1.out.free 4 rfl 0
    have f1 := H1.out.free 4 rfl 1
    have f2 := H1.out.free 4 rfl 2
    have f3 := H1.out.free 4 rfl 3
    have H9 := ((((H1.out.setCell 4 rfl 0 (.int .i64 0)).setCell 4 rfl 1 (.int .i64 k)).setCell 4 rfl 2 (.int .i64 0)).setCell 4 rfl 3 (.string ⟨#[]⟩))
    go_simp
    generalize hw : ((((wq1.setCell ⟨w.heap.size, 0, none⟩ (.int .i64 0)).setCell ⟨w.heap.size, 1, none⟩ (.int .i64 k)).setCell ⟨w.heap.size, 2, none⟩ (.int .i64 0)).setCell ⟨w.heap.size, 3, none⟩ (.string ⟨#[]⟩)) = wq2 at H9 ⊢
    have H2 := Tre.hid H9
    clear hw H9 g0 g1 g2 g3 f0 f1 f2 f3
    refine hK.out _ _ ?_
    clear hK K hH1
    try simp only [Act.put, List.setIfInBounds_toArray, List.set_cons_zero, List.set_cons_succ]
    refine lOne 4 (by kernel_rfl) (LFall.op (by kernel_rfl) (fun K hK => ?_))
    have g0 := H2.out.cell 3 rfl 0 rfl
    have f0 := H2.out.free 3 rfl 0
    have H9 := H2.out.setCell 3 rfl 0 (.int .i64 0)
    go_simp
    generalize hw : wq2.setCell ⟨w.heap.size + 1, 0, none⟩ (.int .i64 0) = wq3 at H9 ⊢
    have H3 := Tre.hid H9
    clear hw H9 g0 f0
    refine hK.out _ _ ?_
    clear hK K
    try simp only [Act.put, List.setIfInBounds_toArray, List.set_cons_zero, List.set_cons_succ]
    refine lOne 5 (by kernel_rfl) (LFall.op (by kernel_rfl) (fun K hK => ?_))
    have g0 := H3.out.cell 2 rfl 0 rfl
    have f0 := H3.out.free 2 rfl 0
    have H9 := H3.out.setCell 2 rfl 0 (.iface 44 (.pointer (some ⟨ev, 0, none⟩)))
    go_simp
    generalize hw : wq3.setCell ⟨w.heap.size + 1 + 1, 0, none⟩ (.iface 44 (.pointer (some ⟨ev, 0, none⟩))) = wq4 at H9 ⊢
    have H4 := Tre.hid H9
    clear hw H9 g0 f0
    refine hK.out _ _ ?_
    clear hK K
    try simp only [Act.put, List.setIfInBounds_toArray, List.set_cons_zero, List.set_cons_succ]
    refine lDone (by kernel_rfl) ?_
    refine NoPanic.normal ?_
    go_wp2_with fail
    have H9 : Mem w0 wq4 (errR [ev] (.iface 44 (.pointer (some ⟨ev, 0, none⟩))) k 5 :: nextL w1.heap.size w.heap.size 0 k 0 ⟨#[]⟩ 0 (.iface 44 (.pointer (some ⟨ev, 0, none⟩))) x b s k (objR D (.deferred (some [])) :: rs)) := H4.out
    have H10 := H9.putObj 6 rfl (.deferred none)
    refine bodyPostM_ret1 rfl (H9.at_ 6 rfl) (next_results _ w.heap.size 0 k 0 0 ⟨#[]⟩ (.iface 44 (.pointer (some ⟨ev, 0, none⟩))) _ rfl rfl rfl (H10.heap 4 rfl) (H10.heap 3 rfl) (H10.heap 2 rfl)) ?_
    exact .inr ⟨HDM.out, _, _, _, _, _, _, [ev], rfl, (((((H10.del 1).del 1).del 1).del 1).del 2)⟩
  case stop =>
    rintro D c pre W hD ⟨r, hr⟩ ⟨rfl, p, y, hp, hM⟩ hK
    have HDM : Hid (nextS x.data.toList = some (⟨6, 0, 0, y.data.toList⟩, y.size)) := by
      show _ = _
      rw [HDN.out, sym_some (p := p) (y := y) (r := r) (by rw [← hp.out.1]; exact hr) hp.out.2.1 hp.out.2.2]; rfl
    have H9 : Mem w0 W (nextL w1.heap.size w.heap.size 6 k 0 y (y.size : Int) .nilIface x b s k (objR D (.deferred (some [])) :: rs)) := (hM.withObj hD hK).perm (List.perm_middle (l₁ := [_, _, _, _, _])).symm
    have HH9 := Tre.hid H9
    clear hM hp hr hK HDN H9
    gi_wp2
    have H10 := HH9.out.putObj 5 rfl (.deferred none)
    refine bodyPostM_ret1 rfl (HH9.out.at_ 5 rfl) (next_results _ w.heap.size 6 k 0 y.size y .nilIface _ rfl rfl rfl (H10.heap 3 rfl) (H10.heap 2 rfl) (H10.heap 1 rfl)) ?_
    exact .inl ⟨⟨6, 0, 0, y.data.toList⟩, y.size, y, HDM.out, rfl, rfl, (((((H10.del 0).del 0).del 0).del 0).del 1)⟩
end Go.Proofs.YtcpcheengfgpaaaGreatDoor.lex
