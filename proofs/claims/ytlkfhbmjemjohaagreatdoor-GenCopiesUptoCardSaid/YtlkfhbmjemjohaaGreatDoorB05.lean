/- graph.Reach. What a call holds in memory: resources, each of its own blocks, no two of them with a block in common. graph.Reach at whatever graph. -/
import Derived.Test.YtlkfhbmjemjohaaGreatDoorB04
import Derived.Deep.AppendLies
import Derived.Sort.LoopGhostIn
import Derived.RangeFuncCalls
import Derived.Maps.AppendAt
import Derived.Test.YtlkfhbmjemjohaaGreatDoorB01
import Derived.Test.YtlkfhbmjemjohaaGreatDoorB00
import Derived.WalkSmall
import Derived.RangeFuncBox
import Derived.RangeFuncOwn
set_option linter.unusedVariables false
namespace Go.Proofs.YtlkfhbmjemjohaaGreatDoor.gr
open Go.RowKit Go.Shelf Go.Maps Go.Tre lex
attribute [local go_sem] Oper.semAt_some

theorem zip2 {α β : Type} (a b : α) (c d : β) : #[a, b].zip #[c, d] = #[(a, c), (b, d)] := by simp
theorem foldl2 {α β : Type} (f : β → α → β) (a b : α) (t : β) : #[a, b].foldl f t = f (f t a) b := by simp
structure RSt (n0 bm bw : Nat) (w : World) (a : Option Addr) (ca : Nat) (g : Tre.Graph) (gk : Nat) (v5 vW : Value) (Ds s out : List Nat) (wr : World) : Prop extends RM n0 bm bw w a ca g v5 vW Ds s out wr where
 dfs : g.dfs s out = g.dfs [g.root.toNat] []
 sl : ∀ x ∈ s, x < g.ns.length
 num : gk = g.budget out + s.length
 le : gk ≤ 2097153
 ob : out.length + g.budget out ≤ 2097152
theorem back_all (xs : List Nat) : ((upto (back xs) xs.length).map (·.2)).reverse = xs := by
 unfold upto
 rw [List.map_map]
 apply List.ext_getElem
 ·simp
 ·intro i h1 h2
  rw [List.getElem_reverse]
  simp only [List.length_map, List.length_range, List.getElem_map, List.getElem_range, Function.comp_apply, back]
  rw [show xs.length - 1 - (xs.length - 1 - i) = i by omega, List.getElem?_eq_getElem h2]
  rfl
theorem lt_heap_own {w : World} {base : Nat} {e : TypeId} {size g n cap k : Nat} {xs : List Value} (h : w.ownsRow base e size (.slice (some ⟨g, 0, none⟩) n cap) k xs) : g < w.heap.size := by
 rcases h.2 with ⟨h', _⟩ | ⟨g', cap', cur, h', _, hg, _⟩
 ·cases h'
 ·cases h'; exact lt_heap hg
set_option maxRecDepth 100000 in
set_option maxHeartbeats 4000000 in
theorem reach_ok (a : Option Addr) (ca : Nat) (g : Tre.Graph) (w : World) (hg : NodesAt w a g.ns) (wg : g.weight ≤ 2097152) (hm : MaxAt w) (c0 : g.checkC = 0) :
  CallsIn Fence.wide 3 Tryz.prog 18 #[.agg #[.slice a g.ns.length ca, .int .i64 g.root]] w fun e w' =>
   ∃ v, e = .returned v ∧ w'.ownsRow w.heap.size 3 1 v (g.reachL).length ((g.reachL).map fun k : Nat => Value.int .i64 (k : Int)) ∧ Below w.heap.size w w' := by
 have b2 : Below w.heap.size w (w.alloc (.cells #[.slice a g.ns.length ca, .int .i64 g.root] 24)) := (Below.refl _ _).alloc (Nat.le_refl _) _
 have HM := Tre.hid hm
 have HG := Tre.hid hg
 have OG := Graph.ok_of c0
 have HC0 := Tre.hid c0
 have r0 : Hid (g.root = ((g.root.toNat : Nat) : Int)) := by have := OG.root0; show _ = _; omega
 clear hg hm c0
 refine callsIn_of_wp_marks Tryz.func18 rfl trivial ?_ rfl
 simp only [Tryz.ntmps18, List.size_toArray, List.length_cons, List.length_nil, Nat.reduceAdd, Nat.reduceSub, Array.replicate_succ, Array.replicate_zero, List.push_toArray, List.append_toArray, List.nil_append, List.cons_append]
 have hC := fun W (h : Below w.heap.size w W) => callsIn_wide (n := 2).2 (check_any a ca g W (HG.out.below h) (by omega) (HM.out.below h))
 have HCk := Tre.hid hC
 clear hC
 obtain ⟨ib, hb1, hb2, hb3, hb4⟩ := info_parts infoB
 gi_wp2_with (refine ⟨trivial, ?_⟩; gi_at_call 6; refine (HCk.out _ b2).mono ?_; rintro e w1 ⟨rfl, d1⟩; rw [HC0.out]; have g0 := cell_below d1 (cell_new1 _ _ _ 0 _ rfl); have g1 := cell_below d1 (cell_new1 _ _ _ 1 _ rfl); have HD1 := Tre.hid (after1 d1); have s1 : w.heap.size < w1.heap.size := (by have := d1.size; simp at this; omega); obtain ⟨wm, hmk, hmo, hmg⟩ := run_make_full (P := Tryz.prog) w1 (w.heap.size + 1) 49 4 ib _ 1 Tryz.underlying49 hb1 hb2 hb3 .i64 .i64 g.ns.length (by rw [hb4]; have := OG.len; omega) (by have := OG.len; unfold maxLen; omega) s1; have g1' := hmg.cell g1 (by simp); have HMO := Tre.hid hmo; have HMG := Tre.hid hmg; have s2 : w1.heap.size < wm.heap.size := (lt_heap_own hmo); clear d1 g1 hmo hmg)
 refine wpIn_loop_ghost_k (fun gk a' wr => ∃ (v5 u6 u19 u20 u21 u22 u23 u24 u25 u26 u27 u28 u29 u30 u31 u32 u33 u34 u35 u36 u37 u38 u39 u40 u41 u42 u43 u44 u45 u46 u47 u48 u49 u50 : Value) (Ds : List Nat), Hid (∃ vW s out, RSt w.heap.size w1.heap.size (wm.heap.size + 1) w a ca g gk v5 vW Ds s out wr) ∧ a' = { tmps := #[Value.agg #[.slice a g.ns.length ca, .int .i64 g.root], .pointer (some ⟨w.heap.size, 0, none⟩), .slice none 0 0, .slice (some ⟨w1.heap.size, 0, none⟩) g.ns.length g.ns.length, .pointer (some ⟨wm.heap.size + 1, 0, none⟩), v5, u6, undef, undef, .agg #[.slice a g.ns.length ca, .int .i64 g.root], .int .i64 0, .bool false, .pointer (some ⟨w.heap.size, 0, none⟩), .slice a g.ns.length ca, .int .i64 (g.ns.length : Int), .slice (some ⟨w1.heap.size, 0, none⟩) g.ns.length g.ns.length, .pointer (some ⟨w.heap.size, 1, none⟩), .int .i64 g.root, .slice (some ⟨wm.heap.size, 0, none⟩) 1 1, u19, u20, u21, u22, u23, u24, u25, u26, u27, u28, u29, u30, u31, u32, u33, u34, u35, u36, u37, u38, u39, u40, u41, u42, u43, u44, u45, u46, u47, u48, u49, u50, undef, undef, undef, undef, undef, undef, undef], defers := Ds.map Tre.mark }) (g.budget [] + 1) ?_ ?_
 ·refine ⟨_, _, _, _, _, _, _, _, _, _, _, _, _, _, _, _, _, _, _, _, _, _, _, _, _, _, _, _, _, _, _, _, _, _, [], ⟨.slice (some ⟨wm.heap.size, 0, none⟩) 1 1, [g.root.toNat], [], ?_⟩, rfl⟩
  have hbl := g.budget_le
  have s2' := s2
  have z1 : ∀ o : Obj, (wm.alloc o).heap.size = wm.heap.size + 1 := fun o => by simp
  have eb := Boxed.new (wm.alloc (.cells #[.int .i64 g.root] 3)) 31 (.slice (some ⟨wm.heap.size, 0, none⟩) 1 1)
  rw [z1] at eb
  refine ⟨⟨eb, ?_, World.ownsRow_nil _ _ _ _, ?_, (fun b hb e => by cases e), ?_, ?_, ⟨List.nodup_nil, by simp⟩, (by simp; omega)⟩, rfl, fun y hy => ?_, rfl, by omega, (by simp; omega)⟩
  ·have := World.ownsRow_lit (base := w.heap.size + 1) (e := 3) (size := 1) wm #[.int .i64 g.root] 1 (by omega) (by unfold maxLen; omega) rfl
   have e : [g.root.toNat].reverse.map rk = [Value.int .i64 g.root] := by simp only [List.reverse_singleton, List.map_cons, List.map_nil, rk, ← r0.out]
   rw [e]
   exact this.alloc _
  ·have e : metL g [] = (madeCells (Value.bool false).cells (g.ns.length * 1)).toList := by
    rw [show (Value.bool false).cells = #[Value.bool false] from rfl, toList_madeCells_one, Nat.mul_one]
    unfold metL
    apply List.ext_getElem
    ·simp
    ·intro i h1 h2
     simp
   rw [e]
   exact (HMO.out.alloc _).alloc _
  ·exact ((HD1.out.grown HMG.out (Nat.le_of_lt s1) (fun k e => by cases e)).alloc (by omega) _).alloc (by simp; omega) _
  ·have h1 := HMG.out.cell g0 (by simp)
   have h2 := (World.grownBy_alloc wm (.cells #[.int .i64 g.root] 3) none).cell h1 (by simp)
   exact (World.grownBy_alloc _ _ none).cell h2 (by simp)
  ·simp at hy; rw [hy]; exact OG.root1
 ·intro gk a' wr hI J K hJ hK
  obtain ⟨v5, u6, u19, u20, u21, u22, u23, u24, u25, u26, u27, u28, u29, u30, u31, u32, u33, u34, u35, u36, u37, u38, u39, u40, u41, u42, u43, u44, u45, u46, u47, u48, u49, u50, Ds, hst, rfl⟩ := hI
  obtain ⟨vW, s, out, st⟩ := hst.out
  have ST := Tre.hid st
  clear st hst
  have cw := ST.out.box.cell
  have g0r := ST.out.gcell
  cases s with
  | nil =>
   obtain ⟨oo, cap, rfl⟩ := own_any ST.out.wait
   gi_wp2
   refine leaves_marks (by simp) (w.heap.size + 1) Ds wr ST.out.marks (fun w' hb hc => ⟨_, results_tmp rfl _ _ _, _, rfl, ?_, ST.out.below.trans (hb.mono (by omega))⟩)
   show w'.ownsRow _ _ _ v5 _ _
   have e : g.reachL = out := by
    have := ST.out.dfs
    rw [g.dfs_nil] at this
    unfold Graph.reachL
    rw [if_pos HC0.out, this]
   rw [e]
   exact own_base (own_cells ST.out.outs hc) (by omega)
  | cons x s =>
   have hnum := ST.out.num
   have hle := ST.out.le
   rw [List.length_cons] at hnum
   have hxl : x < g.ns.length := ST.out.sl x (by simp)
   have hgl := OG.len
   have i1 : (0 : Int) ≤ x := by omega
   have i2 : (x : Int) < g.ns.length := by omega
   have hsl : s.length + 1 ≤ 2097153 := by omega
   have hwt := ST.out.wait
   rw [List.length_cons, List.reverse_cons, List.map_append] at hwt
   obtain ⟨gb, cap, rfl, hcap⟩ := own_pos hwt
   have k0 : wr.cell? ⟨gb, s.length, none⟩ = some (.int .i64 (x : Int)) := by
    rw [hwt.cellAt _ (by omega), List.getElem?_append_right (by simp), List.length_map, List.length_reverse]; simp [rk]
   have hpop : wr.ownsRow (w.heap.size + 1) 3 1 (.slice (some ⟨gb, 0, none⟩) s.length cap) s.length (s.reverse.map rk) := ownsRow_pop (by simp) hwt
   have HPOP := Tre.hid hpop
   have nB : w.heap.size + 1 ≤ wm.heap.size := by omega
   have m0 : wr.cell? ⟨w1.heap.size, x, none⟩ = some (.bool (decide (x ∈ out))) := by
    rw [ST.out.met.cellAt _ (by omega), metL, List.getElem?_map, List.getElem?_range hxl]; rfl
   have nb1 : some w1.heap.size ≠ some (wm.heap.size + 1) := by simp; omega
   have hg1 := grownBy_setCell' wr (wm.heap.size + 1) (.slice (some ⟨gb, 0, none⟩) s.length cap)
   have m1 := hg1.cell m0 (by simp; omega)
   have gk1 := hg1.cell g0r (by simp; omega)
   have HST1 : Hid (x ∈ out → RSt w.heap.size w1.heap.size (wm.heap.size + 1) w a ca g (g.budget out + s.length) v5 (.slice (some ⟨gb, 0, none⟩) s.length cap) Ds s out (wr.setCell ⟨wm.heap.size + 1, 0, none⟩ (.slice (some ⟨gb, 0, none⟩) s.length cap))) := fun hm =>
    ⟨ST.out.put (by omega) _ s HPOP.out (fun b hb => ST.out.sep b hb), by rw [← ST.out.dfs, Graph.dfs_skip hm], fun y hy => ST.out.sl y (by simp [hy]), rfl, by omega, ST.out.ob⟩
   have fz := ST.out.box.frozen
   have HN := Tre.hid hnum
   clear hwt hpop hg1 hnum
   by_cases hm : x ∈ out
   ·have em : decide (x ∈ out) = true := by simp [hm]
    rw [em] at m0 m1
    have HIN := Tre.hid hm
    clear em hm
    gi_wp2
    exact Handed.intro (g.budget out + s.length) (by have := HN.out; omega) (hJ _ _ _ ⟨_, _, _, _, _, _, _, _, _, _, _, _, _, _, _, _, _, _, _, _, _, _, _, _, _, _, _, _, _, _, _, _, _, _, Ds, ⟨_, s, out, HST1.out HIN.out⟩, rfl⟩)
   ·have em : decide (x ∈ out) = false := by simp [hm]
    rw [em] at m0 m1
    have HIN := Tre.hid hm
    clear em hm
    have st1 := ST.out.put (by omega) (.slice (some ⟨gb, 0, none⟩) s.length cap) s HPOP.out (fun b hb => ST.out.sep b hb)
    obtain ⟨m2, hg2⟩ := st1.met.stored x (.bool true)
    have outs2 := (st1.outs.kept hg2 (rows_apart st1.outs st1.met (by decide))).alloc (.cells #[.int .i64 (x : Int)] 3)
    have fz1 : (wr.setCell ⟨wm.heap.size + 1, 0, none⟩ (.slice (some ⟨gb, 0, none⟩) s.length cap)).frozen? ⟨w1.heap.size, x, none⟩ = false := by
     obtain ⟨cs, hc⟩ := own_at st1.met (r := w1.heap.size) rfl
     simp [World.frozen?, hc]
    have ST1 := Tre.hid st1
    have OUTS2 := Tre.hid outs2
    have hol : out.length ≤ 2097153 := by have := ST.out.ob; omega
    have HNB : Hid (((((wr.setCell ⟨wm.heap.size + 1, 0, none⟩ (.slice (some ⟨gb, 0, none⟩) s.length cap)).setCell ⟨w1.heap.size, x, none⟩ (.bool true)).alloc (.cells #[.int .i64 (x : Int)] 3)).heap[wr.heap.size]? = some (.cells #[.int .i64 (x : Int)] 3))) := by
     have := heap_alloc_new ((wr.setCell ⟨wm.heap.size + 1, 0, none⟩ (.slice (some ⟨gb, 0, none⟩) s.length cap)).setCell ⟨w1.heap.size, x, none⟩ (.bool true)) (.cells #[.int .i64 (x : Int)] 3)
     have e : ((wr.setCell ⟨wm.heap.size + 1, 0, none⟩ (.slice (some ⟨gb, 0, none⟩) s.length cap)).setCell ⟨w1.heap.size, x, none⟩ (.bool true)).heap.size = wr.heap.size := by simp [World.setCell]
     rw [e] at this
     exact this
    have HLO : Hid (w.heap.size + 1 ≤ ((((wr.setCell ⟨wm.heap.size + 1, 0, none⟩ (.slice (some ⟨gb, 0, none⟩) s.length cap)).setCell ⟨w1.heap.size, x, none⟩ (.bool true)).alloc (.cells #[.int .i64 (x : Int)] 3)).heap.size)) := by
     have := ST.out.lo
     show _ ≤ _
     simp [World.setCell]
     omega
    obtain ⟨ii, I1, I2, I3, I4⟩ := info_parts infoI
    have J1 := Tre.hid I1
    have J2 := Tre.hid I2
    have J3 := Tre.hid I3
    have J4 := Tre.hid I4
    clear st1 m2 hg2 outs2 I1 I2 I3 I4
    obtain ⟨b1, o1, rfl, nx⟩ := HG.out.at_ x (g.nd x) (by rw [Graph.nd_eq hxl]; exact List.getElem?_eq_getElem hxl)
    generalize hX : g.nd x = X at *
    have HX := Tre.hid hX
    obtain ⟨ax, cx, lx, dx, x0, x1, x2, x3, x4, xA, xL, _, _⟩ := nx
    have HXA := Tre.hid xA
    clear hX x0 x1 x3 x4 xA xL
    have hb1 : b1 < w.heap.size := World.block_lt_of_cell? w _ x2
    gi_wp2_with (first
     | (gi_at_builtin; refine wpListIn_append_own_at _ rfl _ _ 31 rfl (w.heap.size + 1) 3 ii _ 1 8 Tryz.underlying31 J1.out J2.out J3.out J4.out rfl (by omega) v5 out.length (out.map rk) rfl OUTS2.out ⟨wr.heap.size, 0, none⟩ 1 1 [.int .i64 (x : Int)] rfl rfl (World.news_of_block (cs := #[.int .i64 (x : Int)]) (t := 3) (fr := (0, 0)) HNB.out) (by simp [Value.oneCell']) (by unfold maxLen; omega) (by omega) HLO.out ?_; intro v5' w4 hown4 hgrow4 hnil4 hat4; have rm5 := ST1.out.visit (x := x) (by omega) hown4 hgrow4 hat4; have gc4 := rm5.gcell; have x2' := cell_below rm5.below x2; have RM5 := Tre.hid rm5; clear rm5 hown4 hgrow4 hnil4 hat4)
     | (refine ⟨trivial, ?_⟩; gi_at_call 40; refine (back_in Fence.wide 2 trivial rfl _ _ _ _).mono ?_; rintro e w5 ⟨rfl, rfl⟩))
    have hxa : X.args = (g.kids x).map (fun k : Nat => (k : Int)) := by rw [← HX.out]; exact OG.kids_eq hxl
    have hkl : (g.kids x).length = X.args.length := by rw [hxa, List.length_map]
    have bN := Boxed.new w4 31 (.slice ax X.args.length cx)
    have bN' : (w4.alloc (.cells #[.slice ax X.args.length cx] 31)).cell? ⟨w4.heap.size, 0, none⟩ = some (.slice ax (g.kids x).length cx) := by rw [hkl]; exact bN.cell
    have hk8 : (g.kids x).length ≤ 8388608 := by have h1 := args_len X; have h2 : X.weight ≤ g.weight := (by rw [← HX.out, Graph.nd_eq hxl]; exact node_weight (List.getElem_mem hxl)); omega
    have hIn : IntsIn w.heap.size (w4.alloc (.cells #[.slice ax X.args.length cx] 31)) ax (g.kids x) := by
     intro j u hu
     obtain ⟨b3, o3, e3, h3⟩ := HXA.out.at_ j (.int .i64 (u : Int)) (by rw [hxa, List.map_map, List.getElem?_map, hu]; rfl)
     exact ⟨b3, o3, e3, World.block_lt_of_cell? w _ h3, cell_below (RM5.out.below.alloc (by have := RM5.out.lo; omega) _) h3⟩
    obtain ⟨F, hF⟩ : ∃ F, F = Fence.wide := ⟨_, rfl⟩
    have hro : F.round = none := by rw [hF]; rfl
    have hfn : F.fn 51 := by rw [hF]; trivial
    rw [← hF]
    clear hF
    refine wpIn_rangeFunc_ownG hro (by omega) (gf := 51) (lb := #[.pointer (some ⟨w4.heap.size, 0, none⟩)]) rfl hfn (enters_of Tryz.func51 (by kernel_rfl) rfl)
     (back_stops F 2 hfn hro (by omega) w4.heap.size w.heap.size ax cx (g.kids x) hk8 _ (by simp) (by have := RM5.out.lo; simp; omega) bN' hIn) KeepBox.trans
     ?hKb (Below.refl _ _) (fun _ => rfl)
     (fun pre W => ∃ vW, RM w.heap.size w1.heap.size (wm.heap.size + 1) w (some ⟨b1, o1, none⟩) ca g v5' vW Ds ((pre.map (·.2)).reverse ++ s) (out ++ [x]) W ∧ Boxed W w4.heap.size 31 (.slice ax X.args.length cx))
     (fun _ _ _ => False) ?hI (fun _ _ _ _ _ hs _ _ => hs) ?h0 ?a1 ?assign ?body ?done ?stop
    case assign =>
     intro l p W K hK
     rw [zip2, foldl2]
     simp only [zqf, zqh, zqg]
     gi_wp2
     exact hK
    case hKb =>
     intro W l o o' hl ho hc _
     have hg := grownBy_putObj' W l o'
     simp at hl
     have hk4 := RM5.out.lo
     exact ⟨⟨hg.os, hg.tape, hg.output, hg.size, fun k hk => World.putObj_heap_other (by omega)⟩, World.putObj_heap_other (by omega)⟩
    case hI =>
     rintro pre W W' row ⟨vW', rm, bx⟩ hg hr
     refine ⟨vW', rm.kept (B := w4.heap.size + 1) (by have := RM5.out.lo; omega) (fun D hD => by have := lt_heap (RM5.out.marks.2 D hD).2; omega) hg (fun r e => by have := hr r e; simpa using this), bx.kept hg (fun e => ?_)⟩
     have := (hr _ e.symm).1
     simp at this
     omega
    case h0 => exact ⟨_, RM5.out.kept (B := w4.heap.size) (by have := RM5.out.lo; omega) (fun D hD => lt_heap (RM5.out.marks.2 D hD).2) (World.grownBy_alloc w4 _ none) (fun r e => by cases e), bN⟩
    case body =>
     rintro l pre p W ⟨vW', rm, bx⟩ hlt
     have cwb := rm.box.cell
     have fzb := rm.box.frozen
     generalize hS2 : (pre.map (·.2)).reverse ++ s = S2 at rm
     have hS2l : S2.length ≤ 16777216 := by rw [← hS2]; simp; omega
     have RMH := Tre.hid rm
     have BX := Tre.hid bx
     have HS2 := Tre.hid hS2
     have HOW := Tre.hid (rm.wait.alloc (.cells #[.int .i64 (p.2 : Int)] 3))
     have hlo : w.heap.size + 1 ≤ (W.alloc (.cells #[.int .i64 (p.2 : Int)] 3)).heap.size := by have := rm.lo; simp; omega
     have HLO2 := Tre.hid hlo
     clear rm bx hS2 hlo
     gi_wp2_with (gi_at_builtin; refine wpListIn_append_own_at _ rfl _ _ 31 rfl (w.heap.size + 1) 3 ii _ 1 8 Tryz.underlying31 J1.out J2.out J3.out J4.out rfl (by omega) vW' S2.length (S2.reverse.map rk) rfl HOW.out ⟨W.heap.size, 0, none⟩ 1 1 [.int .i64 (p.2 : Int)] rfl rfl (cell_one_new _ _ _) (by simp [Value.oneCell']) (by unfold maxLen; omega) (by omega) HLO2.out ?_; intro v' w6 hown6 hgrow6 hnil6 hat6; obtain ⟨g6, cap6, rfl⟩ := ownsRow_succ hown6; have ap := RMH.out.box.appended (by decide) RMH.out.wait RMH.out.lo (by omega) hown6 hgrow6; have cw6 := ap.1.cell; have fz6 := ap.1.frozen; have AP := Tre.hid ap; have HO6 := Tre.hid hown6; have HG6 := Tre.hid hgrow6; have HA6 := Tre.hid hat6; clear ap hown6 hgrow6 hnil6 hat6)
     simp only [Act.put, zqf, zqh, zqg]
     gi_wp2
     have pu := RMH.out.push (by omega) (y := p.2) HO6.out HG6.out HA6.out
     have bx6 := (BX.out.alloc (.cells #[.int .i64 (p.2 : Int)] 3)).kept HG6.out (BX.out.not_row (by decide) RMH.out.wait)
     have bx7 := bx6.kept (grownBy_setCell' w6 (wm.heap.size + 1) (.slice (some ⟨g6, 0, none⟩) (S2.length + 1) cap6)) (by have := RM5.out.box.lt; simp; omega)
     have es : ((pre ++ [p]).map (·.2)).reverse ++ s = p.2 :: S2 := by rw [← HS2.out]; simp
     rw [← es] at pu
     exact ⟨AP.out.2.2.2.1.from _, ⟨AP.out.2.2.2.2.mono (by omega), bx7.trans BX.out.symm⟩, ⟨_, pu, bx7⟩⟩
    case done =>
     rintro D ys W hD rfl ⟨vW', rm, bx⟩ hKD
     gi_wp2
     rw [back_all] at rm
     have hbs := Graph.budget_step (g := g) (out := out) (a := x) hxl HIN.out
     have hkd := g.kids_len x
     have hob := ST.out.ob
     refine Handed.intro (g.budget (out ++ [x]) + (g.kids x ++ s).length) (by rw [List.length_append, HN.out]; omega) (hJ _ _ _ ⟨_, _, _, _, _, _, _, _, _, _, _, _, _, _, _, _, _, _, _, _, _, _, _, _, _, _, _, _, _, _, _, _, _, _, D :: Ds, ⟨vW', g.kids x ++ s, out ++ [x], ?_⟩, rfl⟩)
     refine ⟨{ rm with marks := ⟨List.nodup_cons.2 ⟨fun hm => ?_, rm.marks.1⟩, fun E hE => ?_⟩ }, ?_, ?_, rfl, ?_, ?_⟩
     ·have := lt_heap (RM5.out.marks.2 D hm).2
      simp at hD
      omega
     ·rcases List.mem_cons.1 hE with rfl | hE
      ·refine ⟨?_, hKD⟩
       have := RM5.out.lo
       simp at hD
       omega
      ·exact rm.marks.2 E hE
     ·rw [← ST.out.dfs, Graph.dfs_take HIN.out hxl]
     ·intro y hy
      rcases List.mem_append.1 hy with hy | hy
      ·exact OG.kids_lt hxl y hy
      ·exact ST.out.sl y (by simp [hy])
     ·have := HN.out
      rw [List.length_append]; omega
     ·rw [List.length_append, List.length_singleton]; omega
    case stop =>
     rintro D c pre W _ _ h _
     exact h.elim
end Go.Proofs.YtlkfhbmjemjohaaGreatDoor.gr
namespace Go.Tre
open Go.RowKit Go.Maps

structure Res where
 own : Nat → Prop
 P : World → Prop
 stable : ∀ w w' : World, P w → (∀ b, own b → w'.heap[b]? = w.heap[b]?) → P w'
 has : ∀ w : World, P w → ∀ b, own b → b < w.heap.size

structure Mem (w0 w : World) (rs : List Res) : Prop where
 below : Below w0.heap.size w0 w
 all : ∀ r ∈ rs, r.P w ∧ ∀ b, r.own b → w0.heap.size ≤ b
 sep : rs.Pairwise fun r s => ∀ b, r.own b → ¬ s.own b

section
variable {w0 w w' : World} {rs : List Res} {r r' : Res}

theorem Mem.size (h : Mem w0 w rs) : w0.heap.size ≤ w.heap.size := h.below.size
theorem Mem.nil (w : World) : Mem w w [] := ⟨Below.refl _ _, by simp, by simp⟩
theorem Mem.of_below (h : Below w0.heap.size w0 w) : Mem w0 w [] := ⟨h, by simp, by simp⟩
theorem Mem.perm {ss : List Res} (h : Mem w0 w rs) (p : rs.Perm ss) : Mem w0 w ss :=
 ⟨h.below, fun r hr => h.all r (p.mem_iff.2 hr), (p.pairwise_iff (fun hxy b hb hx => hxy b hx hb)).1 h.sep⟩
theorem Mem.drop1 (h : Mem w0 w (r :: rs)) : Mem w0 w rs := ⟨h.below, fun s hs => h.all s (by simp [hs]), (List.pairwise_cons.1 h.sep).2⟩
theorem Mem.sub {ss : List Res} (h : Mem w0 w rs) (s : ss.Sublist rs) : Mem w0 w ss := ⟨h.below, fun r hr => h.all r (s.subset hr), h.sep.sublist s⟩

theorem Mem.at_ (h : Mem w0 w rs) (i : Nat) (hi : rs[i]? = some r) : r.P w := (h.all r (List.mem_of_getElem? hi)).1
theorem Mem.lo (h : Mem w0 w rs) (i : Nat) (hi : rs[i]? = some r) : ∀ b, r.own b → w0.heap.size ≤ b := (h.all r (List.mem_of_getElem? hi)).2

theorem Mem.keep (h : Mem w0 w rs) (hg : w.grownBy w' none) : Mem w0 w' rs :=
 ⟨h.below.grown hg h.below.size (fun k e => by cases e), fun r hr => ⟨r.stable _ _ (h.all r hr).1 (fun b hb => hg.block b (r.has _ (h.all r hr).1 b hb) (by simp)), (h.all r hr).2⟩, h.sep⟩
theorem Mem.alloc (h : Mem w0 w rs) (o : Obj) : Mem w0 (w.alloc o) rs := h.keep (World.grownBy_alloc w o none)
theorem Mem.drew (h : Mem w0 w rs) : Mem w0 w.drew rs := h.keep ⟨rfl, rfl, rfl, Nat.le_refl _, fun _ _ _ => rfl⟩
theorem grown_below {w w' : World} (h : Below w.heap.size w w') : w.grownBy w' none := ⟨h.os, h.tape, h.output, h.size, fun k hk _ => h.block k hk⟩
theorem Mem.quiet (h : Mem w0 w rs) (k : Below w.heap.size w w') : Mem w0 w' rs := h.keep (grown_below k)
theorem Mem.call {ss : List Res} (h : Mem w0 w rs) (k : Mem w w' ss) : Mem w0 w' (ss ++ rs) := by
 have h' := h.quiet k.below
 refine ⟨h'.below, fun r hr => ?_, List.pairwise_append.2 ⟨k.sep, h.sep, fun a ha b hb c hc hcb => ?_⟩⟩
 ·rcases List.mem_append.1 hr with hr | hr
  ·exact ⟨(k.all r hr).1, fun b hb => Nat.le_trans h.size ((k.all r hr).2 b hb)⟩
  ·exact h'.all r hr
 ·have h1 := (k.all a ha).2 c hc
  have h2 := b.has _ (h.all b hb).1 c hcb
  omega
theorem Mem.add (h : Mem w0 w rs) (hg : w.grownBy w' none) (r : Res) (hP : r.P w') (hb : ∀ b, r.own b → w.heap.size ≤ b) : Mem w0 w' (r :: rs) := by
 have h' := h.keep hg
 refine ⟨h'.below, fun s hs => ?_, List.pairwise_cons.2 ⟨fun s hs b hb' hs' => ?_, h.sep⟩⟩
 ·rcases List.mem_cons.1 hs with rfl | hs
  ·exact ⟨hP, fun b hb' => Nat.le_trans h.size (hb b hb')⟩
  ·exact h'.all s hs
 ·have h1 := hb b hb'
  have h2 := s.has _ (h.all s hs).1 b hs'
  omega
theorem Mem.hd (h : Mem w0 w (r :: rs)) : r.P w := (h.all r (by simp)).1
theorem Mem.upd (h : Mem w0 w (r :: rs)) (hs : w.heap.size ≤ w'.heap.size) (ho : w'.os = w.os ∧ w'.tape = w.tape ∧ w'.output = w.output) (hg : ∀ k, k < w.heap.size → ¬ r.own k → w'.heap[k]? = w.heap[k]?) (r' : Res) (hP : r'.P w') (hb : ∀ b, r'.own b → r.own b ∨ w.heap.size ≤ b) : Mem w0 w' (r' :: rs) := by
 have hr := h.all r (by simp)
 have hsep := List.pairwise_cons.1 h.sep
 have hall : ∀ s ∈ rs, s.P w ∧ ∀ b, s.own b → w0.heap.size ≤ b := fun s hs => h.all s (by simp [hs])
 refine ⟨h.below.trans ⟨ho.1, ho.2.1, ho.2.2, hs, fun k hk => hg k (Nat.lt_of_lt_of_le hk h.size) (fun e => by have := hr.2 k e; omega)⟩, fun s hs => ?_, List.pairwise_cons.2 ⟨fun s hs b hb' hs' => ?_, hsep.2⟩⟩
 ·rcases List.mem_cons.1 hs with rfl | hs
  ·refine ⟨hP, fun b hb' => ?_⟩
   rcases hb b hb' with e | e
   ·exact hr.2 b e
   ·exact Nat.le_trans h.size e
  ·exact ⟨s.stable _ _ (hall s hs).1 (fun b hb' => hg b (s.has _ (hall s hs).1 b hb') (fun e => hsep.1 s hs b e hb')), (hall s hs).2⟩
 ·rcases hb b hb' with e | e
  ·exact hsep.1 s hs b e hs'
  ·have := s.has _ (hall s hs).1 b hs'
   omega

theorem perm_set (i : Nat) : ∀ {rs : List Res} {r : Res}, rs[i]? = some r → ∀ r' : Res, ∃ l : List Res, rs.Perm (r :: l) ∧ (r' :: l).Perm (rs.set i r') := by
 induction i with
 | zero =>
  intro rs r hi r'
  cases rs with
  | nil => cases hi
  | cons a l => simp at hi; subst hi; exact ⟨l, List.Perm.refl _, List.Perm.refl _⟩
 | succ i ih =>
  intro rs r hi r'
  cases rs with
  | nil => cases hi
  | cons a l =>
   simp at hi
   obtain ⟨l', h1, h2⟩ := ih hi r'
   exact ⟨a :: l', (List.Perm.cons a h1).trans (List.Perm.swap r a l'), (List.Perm.swap a r' l').trans (List.Perm.cons a h2)⟩
theorem Mem.set (h : Mem w0 w rs) (i : Nat) (hi : rs[i]? = some r) (hs : w.heap.size ≤ w'.heap.size) (ho : w'.os = w.os ∧ w'.tape = w.tape ∧ w'.output = w.output) (hg : ∀ k, k < w.heap.size → ¬ r.own k → w'.heap[k]? = w.heap[k]?) (r' : Res) (hP : r'.P w')
  (hb : ∀ b, r'.own b → r.own b ∨ w.heap.size ≤ b) : Mem w0 w' (rs.set i r') := by
 obtain ⟨l, h1, h2⟩ := perm_set i hi r'
 exact ((h.perm h1).upd hs ho hg r' hP hb).perm h2
theorem Mem.set_row {row : Option Nat} (h : Mem w0 w rs) (i : Nat) (hi : rs[i]? = some r) (hg : w.grownBy w' row) (hr : ∀ k, row = some k → r.own k) (r' : Res) (hP : r'.P w') (hb : ∀ b, r'.own b → r.own b ∨ w.heap.size ≤ b) : Mem w0 w' (rs.set i r') :=
 h.set i hi hg.size ⟨hg.os, hg.tape, hg.output⟩ (fun k hk hn => hg.block k hk (fun e => hn (hr k e.symm))) r' hP hb

/-! the resources -/
def rowR (e : TypeId) (size : Nat) (v : Value) (n : Nat) (xs : List Value) : Res where
 own b := v.ownBlock = some b
 P w := w.ownsRow 0 e size v n xs
 stable w w' h hs := by
  refine ⟨h.1, ?_⟩
  rcases h.2 with hn | ⟨g, cap, cur, rfl, hb, hgg, rest⟩
  ·exact .inl hn
  ·exact .inr ⟨g, cap, cur, rfl, hb, (hs g rfl).trans hgg, rest⟩
 has w h b hb := (h.lt b hb).2
def cellsR (b : Nat) (t : TypeId) (cs : Array Value) : Res where
 own b' := b' = b
 P w := w.heap[b]? = some (.cells cs t (0, 0))
 stable w w' h hs := (hs b rfl).trans h
 has w h b' hb := by subst hb; exact (Array.getElem?_eq_some_iff.1 h).1
abbrev boxR (b : Nat) (t : TypeId) (v : Value) : Res := cellsR b t #[v]
def mapR {α β : Type} (P : Program) (k : TypeId) (ek : α → Value) (ev : β → Value) (b n : Nat) (m : α → Option β) : Res where
 own b' := b' = b
 P w := MapIs P k ek ev w b n m
 stable w w' h hs := h.block (hs b rfl)
 has w h b' hb := by subst hb; exact h.lt
def Res.join (r s : Res) : Res where
 own b := r.own b ∨ s.own b
 P w := r.P w ∧ s.P w
 stable _ _ h hs := ⟨r.stable _ _ h.1 (fun b hb => hs b (.inl hb)), s.stable _ _ h.2 (fun b hb => hs b (.inr hb))⟩
 has w h b hb := hb.elim (r.has w h.1 b) (s.has w h.2 b)
def emptyR : Res where
 own _ := False
 P _ := True
 stable _ _ _ _ := trivial
 has _ _ _ h := h.elim
theorem Mem.join (h : Mem w0 w (r :: r' :: rs)) : Mem w0 w (r.join r' :: rs) := by
 have h1 := List.pairwise_cons.1 h.sep
 have h2 := List.pairwise_cons.1 h1.2
 refine ⟨h.below, fun s hs => ?_, List.pairwise_cons.2 ⟨fun s hs b hb hs' => ?_, h2.2⟩⟩
 ·rcases List.mem_cons.1 hs with rfl | hs
  ·have a := h.all r (by simp)
   have c := h.all r' (by simp)
   exact ⟨⟨a.1, c.1⟩, fun b hb => hb.elim (a.2 b) (c.2 b)⟩
  ·exact h.all s (by simp [hs])
 ·rcases hb with hb | hb
  ·exact h1.1 s (by simp [hs]) b hb hs'
  ·exact h2.1 s hs b hb hs'
theorem Mem.addEmpty (h : Mem w0 w rs) : Mem w0 w (emptyR :: rs) :=
 ⟨h.below, fun s hs => by rcases List.mem_cons.1 hs with rfl | hs; exact ⟨trivial, fun b hb => hb.elim⟩; exact h.all s hs, List.pairwise_cons.2 ⟨fun _ _ _ hb _ => hb.elim, h.sep⟩⟩
theorem Mem.as_ (h : Mem w0 w rs) (i : Nat) (hi : rs[i]? = some r) (r' : Res) (hP : r.P w → r'.P w) (hb : ∀ b, r'.own b → r.own b) : Mem w0 w (rs.set i r') :=
 h.set i hi (Nat.le_refl _) ⟨rfl, rfl, rfl⟩ (fun _ _ _ => rfl) r' (hP (h.at_ i hi)) (fun b hb' => .inl (hb b hb'))

def manyR (l : List Res) : Res where
 own b := ∃ r ∈ l, r.own b
 P w := ∀ r ∈ l, r.P w
 stable w w' h hs := fun r hr => r.stable _ _ (h r hr) (fun b hb => hs b ⟨r, hr, hb⟩)
 has w h b hb := by obtain ⟨r, hr, hb⟩ := hb; exact r.has w (h r hr) b hb
theorem Mem.into {l : List Res} (h : Mem w0 w (r :: manyR l :: rs)) : Mem w0 w (manyR (l ++ [r]) :: rs) := by
 have hj := h.join
 have hr := hj.all _ (List.mem_cons_self ..)
 exact hj.as_ 0 rfl (manyR (l ++ [r])) (fun hp s hs => by
  rcases List.mem_append.1 hs with hs | hs
  ·exact hp.2 s hs
  ·simp at hs; subst hs; exact hp.1) (fun b hb => by
  obtain ⟨s, hs, hb⟩ := hb
  rcases List.mem_append.1 hs with hs | hs
  ·exact .inr ⟨s, hs, hb⟩
  ·simp at hs; subst hs; exact .inl hb)
theorem Mem.addMany (h : Mem w0 w rs) : Mem w0 w (manyR [] :: rs) :=
 ⟨h.below, fun s hs => by
  rcases List.mem_cons.1 hs with rfl | hs
  ·exact ⟨fun r hr => by simp at hr, fun b hb => by obtain ⟨r, hr, _⟩ := hb; simp at hr⟩
  ·exact h.all s hs, List.pairwise_cons.2 ⟨fun _ _ _ hb _ => by obtain ⟨r, hr, _⟩ := hb; simp at hr, h.sep⟩⟩

theorem perm_front : ∀ (i : Nat) {l : List Res} {r : Res}, l[i]? = some r → l.Perm (r :: l.eraseIdx i)
 | 0, [], _, h => by cases h
 | 0, a :: l, r, h => by simp at h; subst h; exact List.Perm.refl _
 | i + 1, [], _, h => by cases h
 | i + 1, a :: l, r, h => by
  simp at h
  exact (List.Perm.cons a (perm_front i h)).trans (List.Perm.swap r a _)
theorem Mem.front (h : Mem w0 w rs) (i : Nat) (hi : rs[i]? = some r) : Mem w0 w (r :: rs.eraseIdx i) :=
 h.perm (perm_front i hi)
theorem Mem.del (h : Mem w0 w rs) (i : Nat) : Mem w0 w (rs.eraseIdx i) := h.sub (List.eraseIdx_sublist ..)
/-! steps -/
theorem Mem.allocR (h : Mem w0 w rs) (cs : Array Value) (t : TypeId) : Mem w0 (w.alloc (.cells cs t)) (cellsR w.heap.size t cs :: rs) :=
 h.add (World.grownBy_alloc w _ none) (cellsR w.heap.size t cs) (heap_alloc_new w _) (fun _ hb => Nat.le_of_eq hb.symm)
theorem Mem.allocRow (h : Mem w0 w rs) (cs : Array Value) (e : TypeId) (size n : Nat) (hm : n ≤ maxLen) (hs : cs.size = n * size) : Mem w0 (w.alloc (.cells cs e)) (rowR e size (.slice (some ⟨w.heap.size, 0, none⟩) n n) n cs.toList :: rs) :=
 h.add (World.grownBy_alloc w _ none) (rowR e size _ n cs.toList) (World.ownsRow_lit w cs n (Nat.zero_le _) hm hs) (fun b hb => by have : some w.heap.size = some b := hb; cases this; exact Nat.le_refl _)
theorem Mem.allocMap {α β : Type} (h : Mem w0 w rs) (P : Program) (k : TypeId) (ek : α → Value) (ev : β → Value) : Mem w0 (w.alloc (.map #[] 0)) (mapR P k ek ev w.heap.size 0 (fun _ => none) :: rs) :=
 h.add (World.grownBy_alloc w _ none) (mapR P k ek ev _ _ _) (MapIs.made w P k ek ev) (fun _ hb => Nat.le_of_eq hb.symm)
theorem Mem.addNil (h : Mem w0 w rs) (e : TypeId) (size : Nat) : Mem w0 w (rowR e size (.slice none 0 0) 0 [] :: rs) :=
 h.add ⟨rfl, rfl, rfl, Nat.le_refl _, fun _ _ _ => rfl⟩ (rowR e size _ _ _) (World.ownsRow_nil w _ e size) (fun b hb => by cases hb)
theorem heap_set_at (w : World) (b i : Nat) (t : TypeId) (cs : Array Value) (u : Value) (h : w.heap[b]? = some (.cells cs t (0, 0))) : (w.setCell ⟨b, i, none⟩ u).heap[b]? = some (.cells (cs.setIfInBounds i u) t (0, 0)) := by
 simp [World.setCell, Array.getElem?_modify, h]
theorem grown_set (w : World) (b i : Nat) (u : Value) : w.grownBy (w.setCell ⟨b, i, none⟩ u) (some b) :=
 ⟨rfl, rfl, rfl, by simp [World.setCell], fun k _ hk => Below.heap_setCell w ⟨b, i, none⟩ u k (fun e => hk (by rw [e]))⟩
theorem Mem.setCell {b : Nat} {t : TypeId} {cs : Array Value} (h : Mem w0 w rs) (i : Nat) (hi : rs[i]? = some (cellsR b t cs)) (j : Nat) (u : Value) : Mem w0 (w.setCell ⟨b, j, none⟩ u) (rs.set i (cellsR b t (cs.setIfInBounds j u))) :=
 h.set_row i hi (grown_set w b j u) (fun k e => by cases e; rfl) _ (heap_set_at w b j t cs u (h.at_ i hi)) (fun b' hb => .inl hb)
theorem Mem.setRow {e : TypeId} {size n g cap : Nat} {xs : List Value} (h : Mem w0 w rs) (i : Nat) (hi : rs[i]? = some (rowR e size (.slice (some ⟨g, 0, none⟩) n cap) n xs)) (j : Nat) (u : Value) : Mem w0 (w.setCell ⟨g, j, none⟩ u) (rs.set i (rowR e size (.slice (some ⟨g, 0, none⟩) n cap) n (xs.set j u))) :=
 h.set_row i hi (grown_set w g j u) (fun k e => by cases e; rfl) _ ((h.at_ i hi : World.ownsRow _ _ _ _ _ _ _).stored j u).1 (fun b' hb => .inl hb)
theorem Mem.grow {e : TypeId} {size n n' : Nat} {v v' : Value} {xs xs' : List Value} (h : Mem w0 w rs) (i : Nat) (hi : rs[i]? = some (rowR e size v n xs)) (hg : w.grownBy w' v.ownBlock) (hown : w'.ownsRow 0 e size v' n' xs') (hat : v'.ownBlock = v.ownBlock ∨ v'.ownBlock = some w.heap.size) :
  Mem w0 w' (rs.set i (rowR e size v' n' xs')) :=
 h.set_row i hi hg (fun k e => e) _ hown (fun b hb => by
  have hb' : v'.ownBlock = some b := hb
  rcases hat with e | e
  ·exact .inl (e.symm.trans hb')
  ·rw [e] at hb'; cases hb'; exact .inr (Nat.le_refl _))
theorem Mem.put {α β : Type} {P : Program} {k : TypeId} {ek : α → Value} {ev : β → Value} {b n n' : Nat} {m m' : α → Option β} (h : Mem w0 w rs) (i : Nat) (hi : rs[i]? = some (mapR P k ek ev b n m)) (hg : w.grownBy w' (some b)) (hm : MapIs P k ek ev w' b n' m') : Mem w0 w' (rs.set i (mapR P k ek ev b n' m')) :=
 h.set_row i hi hg (fun k e => by cases e; rfl) _ hm (fun b' hb => .inl hb)
theorem Mem.pop {e : TypeId} {size g cap n : Nat} {xs last : List Value} (h : Mem w0 w rs) (i : Nat) (hi : rs[i]? = some (rowR e size (.slice (some ⟨g, 0, none⟩) (n + 1) cap) (n + 1) (xs ++ last))) (hx : xs.length = n * size) :
  Mem w0 w (rs.set i (rowR e size (.slice (some ⟨g, 0, none⟩) n cap) n xs)) :=
 h.as_ i hi _ (fun hp => ownsRow_pop hx hp) (fun _ hb => hb)

/-! reading -/
theorem Mem.row {e : TypeId} {size n : Nat} {v : Value} {xs : List Value} (h : Mem w0 w rs) (i : Nat) (hi : rs[i]? = some (rowR e size v n xs)) : w.ownsRow 0 e size v n xs := h.at_ i hi
theorem Mem.heap {b : Nat} {t : TypeId} {cs : Array Value} (h : Mem w0 w rs) (i : Nat) (hi : rs[i]? = some (cellsR b t cs)) : w.heap[b]? = some (.cells cs t (0, 0)) := h.at_ i hi
theorem Mem.map {α β : Type} {P : Program} {k : TypeId} {ek : α → Value} {ev : β → Value} {b n : Nat} {m : α → Option β} (h : Mem w0 w rs) (i : Nat) (hi : rs[i]? = some (mapR P k ek ev b n m)) : MapIs P k ek ev w b n m := h.at_ i hi
theorem Mem.cell {b : Nat} {t : TypeId} {cs : Array Value} (h : Mem w0 w rs) (i : Nat) (hi : rs[i]? = some (cellsR b t cs)) (j : Nat) {u : Value} (hj : cs[j]? = some u) : w.cell? ⟨b, j, none⟩ = some u := by
 simp [World.cell?, h.heap i hi, hj]
theorem Mem.two {b : Nat} {t : TypeId} {x y : Value} (h : Mem w0 w rs) (i : Nat) (hi : rs[i]? = some (cellsR b t #[x, y])) : w.cell? ⟨b, 0, none⟩ = some x ∧ w.cell? ⟨b, 1, none⟩ = some y := by
 have := h.at_ i hi
 exact ⟨by simp [World.cell?, show w.heap[b]? = _ from this], by simp [World.cell?, show w.heap[b]? = _ from this]⟩
theorem Mem.free {b : Nat} {t : TypeId} {cs : Array Value} (h : Mem w0 w rs) (i : Nat) (hi : rs[i]? = some (cellsR b t cs)) (j : Nat) : w.frozen? ⟨b, j, none⟩ = false := by
 simp [World.frozen?, h.heap i hi]
theorem Mem.cellAt {e : TypeId} {size n g cap : Nat} {xs : List Value} (h : Mem w0 w rs) (i : Nat) (hi : rs[i]? = some (rowR e size (.slice (some ⟨g, 0, none⟩) n cap) n xs)) (j : Nat) {u : Value} (hj : xs[j]? = some u) : w.cell? ⟨g, j, none⟩ = some u := by
 have hr := h.row i hi
 have hl := (List.getElem?_eq_some_iff.1 hj).1
 rw [hr.cellAt j (by rw [← hr.1]; exact hl), hj]
theorem Mem.freeAt {e : TypeId} {size n g cap : Nat} {xs : List Value} (h : Mem w0 w rs) (i : Nat) (hi : rs[i]? = some (rowR e size (.slice (some ⟨g, 0, none⟩) n cap) n xs)) (j : Nat) : w.frozen? ⟨g, j, none⟩ = false := (h.row i hi).frozenAt j
theorem Mem.pos {e : TypeId} {size n : Nat} {v : Value} {xs : List Value} (h : Mem w0 w rs) (i : Nat) (hi : rs[i]? = some (rowR e size v (n + 1) xs)) : ∃ g cap, v = .slice (some ⟨g, 0, none⟩) (n + 1) cap ∧ w0.heap.size ≤ g ∧ g < w.heap.size := by
 obtain ⟨g, cap, rfl⟩ := ownsRow_succ (h.row i hi)
 exact ⟨g, cap, rfl, h.lo i hi g rfl, ((h.row i hi).lt g rfl).2⟩
theorem Mem.getRow {e : TypeId} {size n cap : Nat} {a : Option Addr} {xs : List Value} (h : Mem w0 w rs) (i : Nat) (hi : rs[i]? = some (rowR e size (.slice a n cap) n xs)) (j : Nat) {u : Value} (hj : xs[j]? = some u) :
  ∃ g, a = some ⟨g, 0, none⟩ ∧ w0.heap.size ≤ g ∧ g < w.heap.size ∧ w.cell? ⟨g, j, none⟩ = some u := by
 have hr := h.row i hi
 rcases hr.2 with ⟨e1, e2⟩ | ⟨g, cap', cur, e1, _, hg, _⟩
 ·have := hr.1
  rw [e2] at this
  have : xs = [] := List.eq_nil_of_length_eq_zero (by simpa using this)
  subst this
  simp at hj
 ·cases e1
  exact ⟨g, rfl, h.lo i hi g rfl, (Array.getElem?_eq_some_iff.1 hg).1, h.cellAt i hi j hj⟩
theorem Mem.val {e : TypeId} {size n : Nat} {v : Value} {xs : List Value} (h : Mem w0 w rs) (i : Nat) (hi : rs[i]? = some (rowR e size v n xs)) : ∃ a cap, v = .slice a n cap ∧ n ≤ cap := by
 rcases (h.row i hi).2 with ⟨rfl, rfl⟩ | ⟨g, cap, cur, rfl, _, _, hn, _⟩
 ·exact ⟨_, _, rfl, Nat.le_refl _⟩
 ·exact ⟨_, _, rfl, hn⟩
end
end Go.Tre
namespace Go.Proofs.YtlkfhbmjemjohaaGreatDoor.gr
open Go.RowKit Go.Shelf Go.Maps Go.Tre lex

theorem own_zero {w : World} {base : Nat} {e : TypeId} {size n : Nat} {v : Value} {xs : List Value} (h : w.ownsRow base e size v n xs) : w.ownsRow 0 e size v n xs := own_base h (Nat.zero_le _)
theorem Mem.of_own {w0 w : World} {e : TypeId} {size n : Nat} {v : Value} {xs : List Value} (h : w.ownsRow w0.heap.size e size v n xs) (b : Below w0.heap.size w0 w) : Mem w0 w [rowR e size v n xs] :=
 ⟨b, fun r hr => by simp at hr; subst hr; exact ⟨own_zero h, fun k hk => (h.lt k hk).1⟩, by simp⟩
set_option maxHeartbeats 1000000 in
theorem reach_any (a : Option Addr) (ca : Nat) (g : Tre.Graph) (w : World) (hg : NodesAt w a g.ns) (wg : g.weight ≤ 2097152) (hm : MaxAt w) :
  Calls Tryz.prog 18 #[.agg #[.slice a g.ns.length ca, .int .i64 g.root]] w fun e w' =>
   ∃ v, e = .returned v ∧ Mem w w' [rowR 3 1 v g.reachL.length (g.reachL.map rk)] := by
 by_cases c0 : g.checkC = 0
 ·exact (callsIn_wide.1 (reach_ok a ca g w hg wg hm c0)).mono fun e w' ⟨v, h1, h2, h3⟩ => ⟨v, h1, Mem.of_own h2 h3⟩
 ·have b2 : Below w.heap.size w (w.alloc (.cells #[.slice a g.ns.length ca, .int .i64 g.root] 24)) := (Below.refl _ _).alloc (Nat.le_refl _) _
  have HM := Tre.hid hm
  have HG := Tre.hid hg
  have t1 := not_ok c0
  have HN : Hid (g.reachL = []) := by show _ = _; unfold Graph.reachL; rw [if_neg c0]
  clear hg hm c0
  go_enter Tryz.func18, Tryz.ntmps18
  go_wp2_with fail
  refine (check_any a ca g _ (HG.out.below b2) (by omega) (HM.out.below b2)).mono ?_
  rintro e w1 ⟨rfl, d1⟩
  have B1 := after1 d1
  clear d1
  go_wp2_with fail
  go_ret
  refine ⟨_, rfl, ?_⟩
  rw [HN.out]
  exact (Mem.of_below B1).addNil _ _
end Go.Proofs.YtlkfhbmjemjohaaGreatDoor.gr
