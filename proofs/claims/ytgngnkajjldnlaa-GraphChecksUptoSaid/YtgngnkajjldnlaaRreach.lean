/- The reference's Reach and Free. -/
import Derived.Test.YtgngnkajjldnlaaVis
import Derived.Test.YtgngnkajjldnlaaRegl
namespace Go.Proofs.Ytgngnkajjldnlaa.gr
open Go.RowKit Go.Shelf Go.Maps Go.Tre lex

set_option maxRecDepth 100000 in
set_option maxHeartbeats 4000000 in
theorem refReach (a : Option Addr) (ca : Nat) (g : Tre.Graph) (w : World) (hg : NodesAt w a g.ns) (wg : g.weight ≤ 2097152) :
    Calls Try.prog 21 #[.agg #[.slice a g.ns.length ca, .int .i64 g.root]] w fun e w' => ∃ v, e = .returned v ∧ Mem w w' [rowR 3 1 v g.reachL.length (g.reachL.map rk)] := by
  have M := (Mem.nil w).allocR #[.slice a g.ns.length ca, .int .i64 g.root] 24
  have HG := Tre.hid hg
  have HM0 := Tre.hid M
  clear M
  by_cases c0 : g.checkC = 0
  · have OG := Tre.hid (Graph.ok_of c0)
    have hgl := OG.out.len
    have r0 : Hid (g.root = ((g.root.toNat : Nat) : Int)) := by have := OG.out.root0; show _ = _; omega
    have C0 := Tre.hid c0
    have u0 : (g.checkC != 0) = false := by rw [c0]; rfl
    have HRE : Hid (g.reachL = g.dfs [g.root.toNat] []) := by show _ = _; unfold Graph.reachL; rw [if_pos c0]
    clear hg c0
    obtain ⟨ib, hb1, hb2, hb3, hb4⟩ := info_parts infoB
    go_enter Try.func21, Try.ntmps21
    go_wp2_with fail
    refine (refCheck a ca g _ (HG.out.below HM0.out.below) (by omega)).mono ?_
    rintro e w1 ⟨rfl, b1⟩
    have M1 := HM0.out.quiet b1
    obtain ⟨g0, g1⟩ := M1.two 0 rfl
    have HM1 := Tre.hid M1
    clear M1 b1
    obtain ⟨wm, hmk, hmo, hmg⟩ := run_make_full (P := Try.prog) w1.drew 0 55 4 ib _ 1 Try.underlying55 hb1 hb2 hb3 .i64 .i64 g.ns.length (by rw [hb4]; omega) (by unfold maxLen; omega) (Nat.zero_le _)
    have e9 : (madeCells (Value.bool false).cells (g.ns.length * 1)).toList = metL g [] := by
      rw [show (Value.bool false).cells = #[Value.bool false] from rfl, toList_madeCells_one, Nat.mul_one]
      unfold metL
      apply List.ext_getElem
      · simp
      · intro i h1 h2
        simp
    rw [e9] at hmo
    have MV : Mem w wm (rowR 4 1 (.slice (some ⟨w1.heap.size, 0, none⟩) g.ns.length g.ns.length) g.ns.length (metL g []) :: rowR 3 1 (.slice none 0 0) ([] : List Nat).length (([] : List Nat).map rk) :: [cellsR w.heap.size 24 #[.slice a g.ns.length ca, .int .i64 g.root]]) := by
      have h1 := (HM1.out.drew.addNil 3 1).add hmg (rowR 4 1 (.slice (some ⟨w1.heap.size, 0, none⟩) g.ns.length g.ns.length) g.ns.length (metL g [])) hmo (fun b hb => by have : some w1.heap.size = some b := hb; cases this; exact Nat.le_refl _)
      exact h1
    have CV := visit_any a ca g w HG.out C0.out wg w1.heap.size (g.budget []) g.root.toNat [] (.slice none 0 0) wm _ (Nat.le_refl _) OG.out.root1 List.nodup_nil (by simp) MV
    rw [← r0.out] at CV
    have HCV := Tre.hid CV
    have HMG := Tre.hid hmg
    clear hmo hmg MV CV e9
    go_wp2_with fail
    refine wp_region_held_drew (S := (fun w' => w'.cell? ⟨w.heap.size, 0, none⟩ = some (.slice a g.ns.length ca) ∧ w'.cell? ⟨w.heap.size, 1, none⟩ = some (.int .i64 g.root))) (by kernel_rfl) ?_ (fun hH0 => ?_)
    · exact ⟨g0, g1⟩
    refine hTake (i := 0) (some 6) (v := ?_) (by rfl) (by kernel_rfl) (by kernel_rfl) (by kernel_rfl) (fun _ _ _ h => h) (by rfl) ?_ hH0 ?_
    rotate_left
    · intro w hSw; (try dsimp only at hSw); simp only [List.getElem?_toArray, List.getElem?_cons_zero, Option.map_some, Option.some.injEq]; (first | (go_simp; done) | (go_simp; with_reducible rfl))
    try simp only [Act.put, List.setIfInBounds_toArray, List.set_cons_zero, List.set_cons_succ]
    refine hTake (i := 1) (some 7) (v := ?_) (by rfl) (by kernel_rfl) (by kernel_rfl) (by kernel_rfl) (fun _ _ _ h => h) (by rfl) ?_ hH0 ?_
    rotate_left
    · intro w hSw; (try dsimp only at hSw); simp only [List.getElem?_toArray, List.getElem?_cons_succ, List.getElem?_cons_zero, Option.map_some, Option.some.injEq]; (first | (go_simp; done) | (go_simp; with_reducible rfl))
    try simp only [Act.put, List.setIfInBounds_toArray, List.set_cons_zero, List.set_cons_succ]
    refine hTake (i := 2) (some 8) (v := ?_) (by rfl) (by kernel_rfl) (by kernel_rfl) (by kernel_rfl) (fun _ _ _ h => h) (by rfl) ?_ hH0 ?_
    rotate_left
    · intro w hSw; (try dsimp only at hSw); simp only [List.getElem?_toArray, List.getElem?_cons_succ, List.getElem?_cons_zero, Option.map_some, Option.some.injEq]; (first | (go_simp; done) | (go_simp; with_reducible rfl))
    try simp only [Act.put, List.setIfInBounds_toArray, List.set_cons_zero, List.set_cons_succ]
    refine hTake (i := 3) (some 9) (v := ?_) (by rfl) (by kernel_rfl) (by kernel_rfl) (by kernel_rfl) (fun _ _ _ h => h) (by rfl) ?_ hH0 ?_
    rotate_left
    · intro w hSw; (try dsimp only at hSw); simp only [List.getElem?_toArray, List.getElem?_cons_succ, List.getElem?_cons_zero, Option.map_some, Option.some.injEq]; (first | (go_simp; done) | (go_simp; with_reducible rfl))
    try simp only [Act.put, List.setIfInBounds_toArray, List.set_cons_zero, List.set_cons_succ]
    refine hTake (i := 4) (some 10) (v := ?_) (by rfl) (by kernel_rfl) (by kernel_rfl) (by kernel_rfl) (fun _ _ _ h => h) (by rfl) ?_ hH0 ?_
    rotate_left
    · intro w hSw; (try dsimp only at hSw); simp only [List.getElem?_toArray, List.getElem?_cons_succ, List.getElem?_cons_zero, Option.map_some, Option.some.injEq]; (first | (go_simp; done) | (go_simp; with_reducible rfl))
    try simp only [Act.put, List.setIfInBounds_toArray, List.set_cons_zero, List.set_cons_succ]
    refine hTake (i := 5) (some 11) (v := ?_) (by rfl) (by kernel_rfl) (by kernel_rfl) (by kernel_rfl) (fun _ _ _ h => h) (by rfl) ?_ hH0 ?_
    rotate_left
    · intro w hSw; (try dsimp only at hSw); simp only [List.getElem?_toArray, List.getElem?_cons_succ, List.getElem?_cons_zero, Option.map_some, Option.some.injEq]; (first | (go_simp; done) | (go_simp; with_reducible rfl))
    try simp only [Act.put, List.setIfInBounds_toArray, List.set_cons_zero, List.set_cons_succ]
    refine hOne 6 (by kernel_rfl) (fun K hK => ?_)
    go_simp
    refine hK.out _ _ ?_ (fun hH1 => ?_)
    · exact ⟨HMG.out.cell g0 (by simp), HMG.out.cell g1 (by simp)⟩
    clear hK K hH0
    try simp only [Act.put, List.setIfInBounds_toArray, List.set_cons_zero, List.set_cons_succ]
    refine hOne 7 (by kernel_rfl) (fun K hK => ?_)
    go_simp
    refine HCV.out.mono ?_
    rintro e w9 ⟨v, rfl, m9⟩
    have c9 := m9.two 2 rfl
    have HM9 := Tre.hid m9
    clear m9
    (try dsimp only)
    refine hK.out _ _ ?_ (fun hH2 => ?_)
    · exact c9
    clear hK K hH1
    try simp only [Act.put, List.setIfInBounds_toArray, List.set_cons_zero, List.set_cons_succ]
    refine hTake (i := 8) (some 2) (v := ?_) (by rfl) (by kernel_rfl) (by kernel_rfl) (by kernel_rfl) (fun _ _ _ h => h) (by rfl) ?_ hH2 ?_
    rotate_left
    · intro w hSw; (try dsimp only at hSw); simp only [List.getElem?_toArray, List.getElem?_cons_succ, List.getElem?_cons_zero, Option.map_some, Option.some.injEq]; (first | (go_simp; done) | (go_simp; with_reducible rfl))
    try simp only [Act.put, List.setIfInBounds_toArray, List.set_cons_zero, List.set_cons_succ]
    refine wpAnyH_done (by kernel_rfl) ?_ _
    obtain ⟨av, cv, rfl, _⟩ := HM9.out.val 1 rfl
    clear hH2
    go_wp2_with fail
    go_ret
    refine ⟨_, rfl, ?_⟩
    rw [HRE.out]
    exact (HM9.out.del 2).del 0
  · have u0 := not_ok c0
    have HN : Hid (g.reachL = []) := by show _ = _; unfold Graph.reachL; rw [if_neg c0]
    clear hg c0
    go_enter Try.func21, Try.ntmps21
    go_wp2_with fail
    refine (refCheck a ca g _ (HG.out.below HM0.out.below) (by omega)).mono ?_
    rintro e w1 ⟨rfl, b1⟩
    have HM1 := Tre.hid (HM0.out.quiet b1).none_
    clear b1
    go_wp2_with fail
    go_ret
    refine ⟨_, rfl, ?_⟩
    rw [HN.out]
    exact HM1.out.addNil _ _

set_option maxRecDepth 100000 in
set_option maxHeartbeats 2000000 in
theorem refFree (a : Option Addr) (ca : Nat) (g : Tre.Graph) (w : World) (hg : NodesAt w a g.ns) (wg : g.weight ≤ 2097152) :
    Calls Try.prog 22 #[.agg #[.slice a g.ns.length ca, .int .i64 g.root]] w fun e w' =>
      ∃ v, e = .returned v ∧ Mem w w' [rowR 3 1 v g.freeL.length (g.freeL.map rk)] := by
  have M0 : Mem w (w.alloc (.cells #[.slice a g.ns.length ca, .int .i64 g.root] 24)) [cellsR w.heap.size 24 #[.slice a g.ns.length ca, .int .i64 g.root]] := (Mem.nil w).allocR _ _
  have HG := Tre.hid hg
  have HM0 := Tre.hid M0
  have hrl := g.reach_lt
  have HRL := Tre.hid hrl
  have hln : g.reachL.length ≤ 2097152 := Nat.le_trans g.reach_len wg
  clear hg M0 hrl
  go_enter Try.func22, Try.ntmps22
  go_wp2_with fail
  refine (refReach a ca g _ (HG.out.below HM0.out.below) wg).mono ?_
  rintro e w1 ⟨vl, rfl, m1⟩
  have M1 := HM0.out.call m1
  obtain ⟨al, cl, rfl, hcl⟩ := M1.val 0 rfl
  have HM1 := Tre.hid M1
  obtain ⟨ii, I1, I2, I3, I4⟩ := info_parts infoI
  have J1 := Tre.hid I1
  have J2 := Tre.hid I2
  have J3 := Tre.hid I3
  have J4 := Tre.hid I4
  clear m1 M1 I1 I2 I3 I4
  generalize hL : g.reachL = L at *
  have HL := Tre.hid hL
  clear hL
  go_wp2_with fail
  go_loopw [3, 9] (fun v2 v8 wr => ∃ k : Nat, k ≤ L.length ∧ v8 = .int .i64 k ∧
      Hid (Mem w wr [rowR 3 1 v2 ((L.take k).filter fun i => freeB (g.nd i)).length (((L.take k).filter fun i => freeB (g.nd i)).map rk), rowR 3 1 (.slice al L.length cl) L.length (L.map rk), cellsR w.heap.size 24 #[.slice a g.ns.length ca, .int .i64 g.root]]))
    (fun _ v8 _ => L.length - (intOf v8).toNat)
  case atStart => exact ⟨0, Nat.zero_le _, rfl, HM1.out.addNil _ _⟩
  case round =>
    obtain ⟨k, hk, rfl, hM⟩ := hrel
    by_cases hlt : k < L.length
    · obtain ⟨x, hx⟩ : ∃ x, L[k]? = some x := ⟨_, List.getElem?_eq_getElem hlt⟩
      obtain ⟨gl, rfl, hgl, hgl2, hcl⟩ := hM.out.getRow 1 rfl k (u := rk x) (by rw [List.getElem?_map, hx]; rfl)
      have hxl : x < g.ns.length := HRL.out x (List.mem_of_getElem? hx)
      have hft := filter_take (fun i => freeB (g.nd i)) L k x hx
      have HFT := Tre.hid hft
      obtain ⟨b1, o1, rfl, nx⟩ := (HG.out.below hM.out.below).at_ x (g.nd x) (by rw [Graph.nd_eq hxl]; exact List.getElem?_eq_getElem hxl)
      generalize hX : g.nd x = X at *
      have HX := Tre.hid hX
      obtain ⟨ax, cx, lx, dx, x0, x1, x2, x3, x4, xA, xL, _, _⟩ := nx
      have c0 : wr.cell? ⟨w.heap.size, 0, none⟩ = some (.slice (some ⟨b1, o1, none⟩) g.ns.length ca) := hM.out.cell 2 rfl 0 rfl
      have hcl' : wr.cell? ⟨gl, k, none⟩ = some (.int .i64 (x : Int)) := hcl
      clear hX hft hcl hx xA xL
      have hlen : ((L.take k).filter fun i => freeB (g.nd i)).length ≤ 2097152 := Nat.le_trans (List.length_filter_le _ _) (Nat.le_trans (List.length_take_le' _ _) hln)
      generalize hO : (L.take k).filter (fun i => freeB (g.nd i)) = O at *
      have HO := Tre.hid hO
      clear hO
      by_cases hf : freeB X = true
      · have HF := Tre.hid hf
        clear hf
        go_wp2_with (first
          | (go_at_call 26; refine (refFree1 X _ _ _ _ _).mono ?_; rintro e w2 ⟨rfl, b2⟩; rw [HF.out]; have hN := (hM.out.quiet b2).alloc (.cells #[.int .i64 (x : Int)] 3); have HN := Tre.hid hN; clear hN b2)
          | (at_builtin; refine wpList_append_own_at _ rfl _ _ 30 rfl 0 3 ii _ 1 8 Try.underlying30 J1.out J2.out J3.out J4.out rfl (by omega) u3 O.length (O.map rk) rfl (HN.out.row 0 rfl) ⟨w2.heap.size, 0, none⟩ 1 1 [.int .i64 (x : Int)] rfl rfl (cell_one_new _ _ _) (by simp [Value.oneCell']) (by unfold maxLen; omega) (by omega) (Nat.zero_le _) ?_; intro v' w4 hown4 hgrow4 hnil4 hat4; have M4 := HN.out.grow 0 rfl hgrow4 hown4 hat4; have HM4 := Tre.hid M4; clear M4 hown4 hgrow4 hnil4 hat4))
        go_roundw
        case rel =>
          refine ⟨k + 1, by omega, by go_num, ?_⟩
          have e : (L.take (k + 1)).filter (fun i => freeB (g.nd i)) = O ++ [x] := by rw [HFT.out, HF.out]; rfl
          rw [e, List.length_append, List.length_singleton, List.map_append]
          exact HM4.out
        case measure => simp [intOf]; omega
      · have hf' : freeB X = false := by simpa using hf
        have HF := Tre.hid hf'
        clear hf hf'
        go_wp2_with (first
          | (go_at_call 26; refine (refFree1 X _ _ _ _ _).mono ?_; rintro e w2 ⟨rfl, b2⟩; rw [HF.out]; have hN := hM.out.quiet b2; have HN := Tre.hid hN; clear hN b2))
        go_roundw
        case rel =>
          refine ⟨k + 1, by omega, by go_num, ?_⟩
          have e : (L.take (k + 1)).filter (fun i => freeB (g.nd i)) = O := by rw [HFT.out, HF.out]; simp
          rw [e]
          exact HN.out
        case measure => simp [intOf]; omega
    · have e : L.take k = L := List.take_of_length_le (by omega)
      have hM' := hM.out
      rw [e] at hM'
      have HMM := Tre.hid hM'
      clear e hM' hM
      obtain ⟨ao, co, rfl, _⟩ := HMM.out.val 0 rfl
      go_wp2_with fail
      go_ret
      refine ⟨_, rfl, ?_⟩
      unfold Graph.freeL
      rw [HL.out]
      exact HMM.out.sub (by simp)
end Go.Proofs.Ytgngnkajjldnlaa.gr
