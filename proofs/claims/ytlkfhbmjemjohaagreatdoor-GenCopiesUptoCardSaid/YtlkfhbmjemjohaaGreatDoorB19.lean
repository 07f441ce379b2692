/- graph.Same, at any two graphs. gen.marks, gen.check. gen.sorts, Fixed, Generic. gen.Fixed, gen.Generic. -/
import Derived.Test.YtlkfhbmjemjohaaGreatDoorB18
import Derived.Test.YtlkfhbmjemjohaaGreatDoorB06
import Derived.Test.YtlkfhbmjemjohaaGreatDoorB17
import Derived.Test.YtlkfhbmjemjohaaGreatDoorB07
import Derived.Test.YtlkfhbmjemjohaaGreatDoorB08
import Derived.Deep.LoopGhost
import Derived.Deep.DeepCutAuto
set_option linter.unusedVariables false
namespace Go.Proofs.YtlkfhbmjemjohaaGreatDoor.gr
open Go.RowKit Go.Maps Go.Tre lex

set_option maxRecDepth 100000 in
set_option maxHeartbeats 4000000 in
theorem same_any (a b : Option Addr) (ca cb : Nat) (g h : Tre.Graph) (w : World) (hg : NodesAt w a g.ns) (hh : NodesAt w b h.ns) (wg : g.weight ≤ 2097152) (wh : h.weight ≤ 2097152) (hm : MaxAt w) :
  Calls Tryz.prog 9 #[.agg #[.slice a g.ns.length ca, .int .i64 g.root], .agg #[.slice b h.ns.length cb, .int .i64 h.root]] w fun e w' => e = .returned (.bool (sameB g h)) ∧ Below w.heap.size w w' := by
 by_cases c0 : g.checkC = 0
 ·by_cases c1 : h.checkC = 0
  ·refine same_ok a b ca cb g h w hg hh (by omega) (by omega) hm ?_ c0 c1
   have h1 := left_le g h
   have h2 := len_weight h
   have h3 : g.weight * h.ns.length ≤ 2097152 * 2097152 := Nat.mul_le_mul wg (by omega)
   omega
  ·have b2 : Below w.heap.size w ((w.alloc (.cells #[.slice a g.ns.length ca, .int .i64 g.root] 24)).alloc (.cells #[.slice b h.ns.length cb, .int .i64 h.root] 24)) := ((Below.refl _ _).alloc (Nat.le_refl _) _).alloc (by simp) _
   have HM := Tre.hid hm
   have HG := Tre.hid hg
   have HH := Tre.hid hh
   have HC0 := Tre.hid c0
   have t1 := not_ok c1
   have HN : Hid (¬ SameG g h) := fun s => c1 s.okh
   clear hg hh hm c0 c1
   go_enter Tryz.func9, Tryz.ntmps9
   go_wp2_with fail
   refine (check_any a ca g _ (HG.out.below b2) (by omega) (HM.out.below b2)).mono ?_
   rintro e w1 ⟨rfl, d1⟩
   rw [HC0.out]
   have h0 : w1.cell? ⟨w.heap.size + 1, 0, none⟩ = some (.slice b h.ns.length cb) := cell_below d1 (cell_of_heap (heap_two _ _ _) rfl)
   have h1 : w1.cell? ⟨w.heap.size + 1, 1, none⟩ = some (.int .i64 h.root) := cell_below d1 (cell_of_heap (heap_two _ _ _) rfl)
   have B1 := after2 d1
   clear d1
   go_wp2_with fail
   refine (check_any b cb h _ (HH.out.below B1) (by omega) (HM.out.below B1)).mono ?_
   rintro e w2 ⟨rfl, d2⟩
   have B2 := after_two B1 d2
   clear d2
   go_wp2_with fail
   go_ret
   exact ⟨ret_bool (sameB_false HN.out).symm, B2⟩
 ·have b2 : Below w.heap.size w ((w.alloc (.cells #[.slice a g.ns.length ca, .int .i64 g.root] 24)).alloc (.cells #[.slice b h.ns.length cb, .int .i64 h.root] 24)) := ((Below.refl _ _).alloc (Nat.le_refl _) _).alloc (by simp) _
  have HM := Tre.hid hm
  have HG := Tre.hid hg
  have t1 := not_ok c0
  have HN : Hid (¬ SameG g h) := fun s => c0 s.okg
  clear hg hh hm c0
  go_enter Tryz.func9, Tryz.ntmps9
  go_wp2_with fail
  refine (check_any a ca g _ (HG.out.below b2) (by omega) (HM.out.below b2)).mono ?_
  rintro e w1 ⟨rfl, d1⟩
  have B1 := after2 d1
  clear d1
  go_wp2_with fail
  go_ret
  exact ⟨ret_bool (sameB_false HN.out).symm, B1⟩
end Go.Proofs.YtlkfhbmjemjohaaGreatDoor.gr
namespace Go.Tre
def Graph.monoC (g : Tre.Graph) (mono : List Int) : Int := if g.checkC ≠ 0 then g.checkC else if mono.any (outside g.ns.length) then 2 else 0
end Go.Tre
namespace Go.Proofs.YtlkfhbmjemjohaaGreatDoor.gr
open Go.RowKit Go.Shelf Go.Maps Go.Tre lex
theorem metL_same {g : Tre.Graph} {V W : List Nat} (h : ∀ i, i ∈ V ↔ i ∈ W) : metL g V = metL g W := by
 unfold metL
 refine List.map_congr_left (fun i _ => ?_)
 simp only [h i]
theorem made_bools (g : Tre.Graph) : (madeCells (Value.bool false).cells (g.ns.length * 1)).toList = metL g [] := by
 rw [show (Value.bool false).cells = #[Value.bool false] from rfl, toList_madeCells_one, Nat.mul_one]
 unfold metL
 apply List.ext_getElem
 ·simp
 ·intro i h1 h2
  simp
theorem casts_map (l : List Nat) : (l.map fun k : Nat => (k : Int)).map (Value.int .i64) = l.map rk := by rw [List.map_map]; rfl

set_option maxRecDepth 100000 in
set_option maxHeartbeats 4000000 in
theorem marks_any (a : Option Addr) (ca : Nat) (g : Tre.Graph) (al : Option Addr) (cl : Nat) (l : List Nat) (w : World) (hg : NodesAt w a g.ns) (c0 : g.checkC = 0) (wg : g.weight ≤ 2097152) (hl : IntsAt w al (l.map fun k : Nat => (k : Int))) (hm : ∀ m ∈ l, m < g.ns.length) (hll : l.length ≤ 2097152) :
  Calls Tryz.prog 49 #[.agg #[.slice a g.ns.length ca, .int .i64 g.root], .slice al l.length cl] w fun e w' =>
   ∃ v, e = .returned v ∧ Mem w w' [rowR 4 1 v g.ns.length (metL g (g.dfs l []))] := by
 have M := (Mem.nil w).allocR #[.slice a g.ns.length ca, .int .i64 g.root] 24
 have HG := Tre.hid hg
 have HL := Tre.hid hl
 have HM0 := Tre.hid M
 have OG := Tre.hid (Graph.ok_of c0)
 have hgl := OG.out.len
 have hbl := g.budget_le
 have HMI := Tre.hid (MI.start (g := g) hm)
 have HLM := Tre.hid hm
 obtain ⟨ib, hb1, hb2, hb3, hb4⟩ := info_parts infoB
 have B1 := Tre.hid hb1
 have B2 := Tre.hid hb2
 have B3 := Tre.hid hb3
 have B4 := Tre.hid hb4
 obtain ⟨ji, K1, K2, K3, K4⟩ := info_parts infoI
 have L1 := Tre.hid K1
 have L2 := Tre.hid K2
 have L3 := Tre.hid K3
 have L4 := Tre.hid K4
 obtain ⟨wm, hmk, hmo, hmg⟩ := run_make_full (P := Tryz.prog) (w.alloc (.cells #[.slice a g.ns.length ca, .int .i64 g.root] 24)) 0 49 4 ib _ 1 Tryz.underlying49 hb1 hb2 hb3 .i64 .i64 g.ns.length (by rw [hb4]; omega) (by unfold maxLen; omega) (Nat.zero_le _)
 rw [made_bools, heapSize_alloc] at hmo
 have MV : Mem w wm [rowR 4 1 (.slice (some ⟨w.heap.size + 1, 0, none⟩) g.ns.length g.ns.length) g.ns.length (metL g []), cellsR w.heap.size 24 #[.slice a g.ns.length ca, .int .i64 g.root]] :=
  M.add hmg (rowR 4 1 _ g.ns.length (metL g [])) hmo (fun b hb => by have : some (w.heap.size + 1) = some b := hb; cases this; simp)
 have HMV := Tre.hid MV
 have CL := cloneInts al cl (l.map fun k : Nat => (k : Int)) wm (hl.below MV.below) (by rw [List.length_map]; omega)
 rw [List.length_map, casts_map] at CL
 have HCL := Tre.hid CL
 rw [heapSize_alloc] at hmk
 obtain ⟨bm, hbm⟩ : ∃ bm : Nat, w.heap.size + 1 = bm := ⟨_, rfl⟩
 clear hg hl M c0 hm hb1 hb2 hb3 hb4 K1 K2 K3 K4 hmo hmg MV CL
 go_enter Tryz.func49, Tryz.ntmps49
 go_wp2_with fail
 refine HCL.out.mono ?_
 rintro e w2 ⟨v6, rfl, m2⟩
 have HM2 := Tre.hid (HMV.out.call m2)
 rw [hbm] at HM2
 clear m2 hmk hbm HMV HCL HL
 obtain ⟨a6, c6, rfl, _⟩ := HM2.out.val 0 rfl
 go_wp2_with fail
 go_loopg [6] (g.budget [] + l.length) (fun gk v6 wr => ∃ V s : List Nat, Hid (MI g l V s ∧ gk = g.budget V + s.length) ∧ Hid (Mem w wr [rowR 3 1 v6 s.length (s.map rk), rowR 4 1 (.slice (some ⟨bm, 0, none⟩) g.ns.length g.ns.length) g.ns.length (metL g V), cellsR w.heap.size 24 #[.slice a g.ns.length ca, .int .i64 g.root]]))
 case atStart => exact ⟨[], l, ⟨HMI.out, rfl⟩, HM2.out⟩
 case round =>
  obtain ⟨V, s, hI, hM⟩ := hrel
  have hsl : s.length ≤ 4194304 := by have := hI.out.1.le; omega
  rcases List.eq_nil_or_concat s with rfl | ⟨s, x, rfl⟩
  ·obtain ⟨a6, c6, rfl, _⟩ := hM.out.val 0 rfl
   go_wp2_with fail
   go_ret
   refine ⟨_, rfl, ?_⟩
   rw [← metL_same (fun i => hI.out.1.done OG.out HLM.out i)]
   exact (hM.out.del 0).del 1
  ·rw [List.concat_eq_append] at hI hM hsl
   have hM' := hM.out
   rw [List.length_append, List.length_singleton, List.map_append] at hM'
   obtain ⟨g6, c6, rfl, _, _⟩ := hM'.pos 0 rfl
   have k0 : wr.cell? ⟨g6, s.length, none⟩ = some (.int .i64 (x : Int)) := hM'.cellAt 0 rfl s.length (by rw [List.getElem?_append_right (by simp), List.length_map, Nat.sub_self]; rfl)
   have hcc : s.length + 1 ≤ c6 := by obtain ⟨_, _, e, h⟩ := hM'.val 0 rfl; cases e; exact h
   have MP := hM'.pop 0 rfl (by simp)
   have hxl : x < g.ns.length := hI.out.1.slt x (by simp)
   have m0 : wr.cell? ⟨bm, x, none⟩ = some (.bool (decide (x ∈ V))) := hM'.cellAt 1 rfl x (by rw [metL, List.getElem?_map, List.getElem?_range hxl]; rfl)
   have mf := hM'.freeAt 1 rfl x
   have HMP := Tre.hid MP
   have i1 : (0 : Int) ≤ (x : Int) := by omega
   have i2 : (x : Int) < (g.ns.length : Int) := by omega
   rw [List.length_append, List.length_singleton] at hsl
   clear hM' MP hM
   by_cases hxV : x ∈ V
   ·have HI2 := Tre.hid (hI.out.1.skip hxV)
    have em : decide (x ∈ V) = true := by simp [hxV]
    rw [em] at m0
    clear em
    go_wp2_with fail
    go_roundg (g.budget V + s.length)
    case measure => have := hI.out.2; rw [this]; simp
    case rel => exact ⟨V, s, ⟨HI2.out, rfl⟩, HMP.out⟩
   ·have HI2 := Tre.hid (hI.out.1.mark OG.out hxV)
    have em : decide (x ∈ V) = false := by simp [hxV]
    rw [em] at m0
    have M2 := HMP.out.setRow 1 rfl x (.bool true)
    have e2 : (metL g V).set x (.bool true) = metL g (V ++ [x]) := (metL_set g V x).symm
    rw [e2] at M2
    obtain ⟨g0, g1⟩ := M2.two 2 rfl
    have HBS := Tre.hid (Graph.budget_step (g := g) hxl hxV)
    obtain ⟨b1, o1, rfl, nx⟩ := HG.out.at_ x (g.nd x) (by rw [Graph.nd_eq hxl]; exact List.getElem?_eq_getElem hxl)
    have hax := OG.out.kids_eq hxl
    have hkl := g.kids_len x
    have hdg : g.deg x ≤ g.weight := by
     have h1 := args_len (g.nd x)
     have h2 : (g.nd x).weight ≤ g.weight := by rw [Graph.nd_eq hxl]; exact node_weight (List.getElem_mem hxl)
     have h3 : g.deg x = (g.nd x).args.length := rfl
     omega
    obtain ⟨ax, cx, lx, dx, x0, x1, x2, x3, x4, xA, xL, _, _⟩ := nx
    have xA := xA.below M2.below
    have x2 := cell_below M2.below x2
    have hdl : (g.nd x).args.length = (g.kids x).length := by rw [hkl]; rfl
    rw [hdl] at x2
    have XA : Hid (IntsAt (wr.setCell ⟨bm, x, none⟩ (.bool true)) ax ((g.kids x).map fun k : Nat => (k : Int))) := by rw [← hax]; exact xA
    have hkl2 : (g.kids x).length ≤ 2097152 := by omega
    have HKL := Tre.hid hkl
    have HM2' := Tre.hid M2
    clear hax hkl hdl xA xL x0 x1 x3 x4 M2 em e2 hdg
    go_wp2_with (at_builtin; refine wpList_append_row _ rfl _ _ 31 rfl 3 ji _ 1 8 Tryz.underlying31 L1.out L2.out L3.out L4.out rfl (by omega) (.slice (some ⟨g6, 0, none⟩) s.length c6) s.length (s.map rk) rfl (HM2'.out.row 0 rfl) ax (g.kids x).length cx ((g.kids x).map rk) rfl (by have h := XA.out; rw [IntsAt, List.length_map, casts_map] at h; exact h) (fun u hu => by obtain ⟨z, _, rfl⟩ := List.mem_map.1 hu; rfl) (by unfold maxLen; omega) (by omega) ?_; intro v' w4 hown4 hgrow4 hat4; have M4 := HM2'.out.grow 0 rfl hgrow4 hown4 hat4; obtain ⟨a4, c4, rfl, _⟩ := M4.val 0 rfl; have HM4 := Tre.hid M4; clear M4 hown4 hgrow4 hat4)
    go_roundg (g.budget (V ++ [x]) + (s ++ g.kids x).length)
    case measure =>
     have h1 := hI.out.2
     have h2 := HBS.out
     have h3 := HKL.out
     rw [h1]
     simp only [List.length_append, List.length_singleton]
     omega
    case rel =>
     refine ⟨V ++ [x], s ++ g.kids x, ⟨HI2.out, rfl⟩, ?_⟩
     rw [List.length_append, List.map_append]
     exact HM4.out

set_option maxHeartbeats 1000000 in
theorem check1g (x : Int) (bg : Nat) (an : Option Addr) (size cap : Nat) (w : World) (hc : w.cell? ⟨bg, 0, none⟩ = some (.slice an size cap)) :
  Calls Tryz.prog 48 #[.int .i64 x, .pointer (some ⟨bg, 0, none⟩)] w fun e w' => e = .returned (.bool (outside size x)) ∧ Below w.heap.size w w' := by
 by_cases h0 : x < 0
 ·have H : Hid (outside size x = true) := by show _ = _; unfold outside; simp [h0]
  go_enter Tryz.func48, Tryz.ntmps48
  go_wp2_with fail
  go_ret
  exact ⟨ret_bool H.out.symm, Below.refl _ _⟩
 ·have H : Hid (outside size x = decide ((size : Int) ≤ x)) := by show _ = _; unfold outside; simp [h0]
  go_enter Tryz.func48, Tryz.ntmps48
  go_wp2_with fail
  go_ret
  exact ⟨ret_bool H.out.symm, Below.refl _ _⟩
theorem hcfG (args : Array Value) (w : World) : (callFunc 48 args).run Tryz.prog w = .ok (.enter 48 args) w := by kernel_rfl
theorem gcheck_any (a : Option Addr) (ca : Nat) (g : Tre.Graph) (am : Option Addr) (cm : Nat) (mono : List Int) (w : World) (hg : NodesAt w a g.ns) (wg : g.weight ≤ 2097152) (hl : IntsAt w am mono) (hll : mono.length ≤ 8388608) (hm : MaxAt w) :
  Calls Tryz.prog 32 #[.agg #[.slice a g.ns.length ca, .int .i64 g.root], .slice am mono.length cm] w fun e w' => e = .returned (.int .i64 (g.monoC mono)) ∧ Below w.heap.size w w' := by
 have M := (Mem.nil w).allocR #[.slice a g.ns.length ca, .int .i64 g.root] 24
 have HG := Tre.hid hg
 have HL := Tre.hid hl
 have HM := Tre.hid hm
 have HM0 := Tre.hid M
 clear hg hl hm M
 by_cases c0 : g.checkC = 0
 ·have u0 : (g.checkC != 0) = false := by rw [c0]; rfl
  have HC : Hid (g.monoC mono = if mono.any (outside g.ns.length) then 2 else 0) := by show _ = _; unfold Graph.monoC; simp [c0]
  clear c0
  go_enter Tryz.func32, Tryz.ntmps32
  go_wp2_with fail
  refine (check_any a ca g _ (HG.out.below HM0.out.below) (by omega) (HM.out.below HM0.out.below)).mono ?_
  rintro e w1 ⟨rfl, b1⟩
  have M1 := HM0.out.quiet b1
  have g0 := (M1.two 0 rfl).1
  have HM1 := Tre.hid M1
  clear M1 b1
  go_wp2_with fail
  refine (containsInts 48 #[.pointer (some ⟨w.heap.size, 0, none⟩)] hcfG (outside g.ns.length) _ _ mono _ (HL.out.below HM1.out.below) hll (fun x wx _ hbx => check1g x _ a g.ns.length ca wx (cell_below hbx g0))).mono ?_
  rintro e w2 ⟨rfl, b2⟩
  have HM2 := Tre.hid (HM1.out.quiet b2)
  clear b2
  cases hx : mono.any (outside g.ns.length)
  all_goals
   have HX := Tre.hid hx
   clear hx
   go_wp2_with fail
   go_ret
   exact ⟨ret_int (by rw [HC.out, HX.out]; rfl), HM2.out.below⟩
 ·have u0 := not_ok c0
  have HC : Hid (g.monoC mono = g.checkC) := by show _ = _; unfold Graph.monoC; rw [if_pos c0]
  clear c0
  go_enter Tryz.func32, Tryz.ntmps32
  go_wp2_with fail
  refine (check_any a ca g _ (HG.out.below HM0.out.below) (by omega) (HM.out.below HM0.out.below)).mono ?_
  rintro e w1 ⟨rfl, b1⟩
  have HM1 := Tre.hid (HM0.out.quiet b1)
  clear b1
  go_wp2_with fail
  go_ret
  exact ⟨ret_int (by rw [HC.out]), HM1.out.below⟩
end Go.Proofs.YtlkfhbmjemjohaaGreatDoor.gr
namespace Go.Tre
theorem range_filter (p : Nat → Bool) (k : Nat) : (List.range (k + 1)).filter p = (List.range k).filter p ++ if p k then [k] else [] := by
 rw [List.range_succ, List.filter_append]
 congr 1
 cases h : p k <;> simp [h]
theorem may_open {x : Tre.Node} {n : Nat} (h : mayB x n = true) (ho : x.isOpen = true) : x.kind = 3 := by
 unfold mayB at h
 rw [ho] at h
 by_cases h1 : x.kind = 1
 ·simp [h1] at h
 ·by_cases h2 : x.kind = 2
  ·simp [h2] at h
  ·by_cases h3 : x.kind = 3
   ·exact h3
   ·simp [h1, h2, h3] at h
end Go.Tre
namespace Go.Proofs.YtlkfhbmjemjohaaGreatDoor.gr
open Go.RowKit Go.Shelf Go.Maps Go.Tre lex

set_option maxRecDepth 100000 in
set_option maxHeartbeats 8000000 in
theorem sorts_any (a : Option Addr) (ca : Nat) (g : Tre.Graph) (am : Option Addr) (cm : Nat) (mono : List Nat) (w : World) (hg : NodesAt w a g.ns) (c0 : g.checkC = 0) (wg : g.weight ≤ 2097152) (hl : IntsAt w am (mono.map fun k : Nat => (k : Int))) (hm : ∀ m ∈ mono, m < g.ns.length) (hll : mono.length ≤ 2097152) :
  Calls Tryz.prog 33 #[.agg #[.slice a g.ns.length ca, .int .i64 g.root], .slice am mono.length cm] w fun e w' =>
   ∃ v1 v2, e = .returned (.tuple #[v1, v2]) ∧ Mem w w' [rowR 3 1 v1 (g.fixedL mono).length ((g.fixedL mono).map rk), rowR 3 1 v2 (g.genericL mono).length ((g.genericL mono).map rk)] := by
 have M := (Mem.nil w).allocR #[.slice a g.ns.length ca, .int .i64 g.root] 24
 have HG := Tre.hid hg
 have HL := Tre.hid hl
 have HM0 := Tre.hid M
 have C0 := Tre.hid c0
 have OG := Tre.hid (Graph.ok_of c0)
 have hgl := OG.out.len
 have HLM := Tre.hid hm
 have R0 : Hid (g.root = ((g.root.toNat : Nat) : Int)) := by have := OG.out.root0; show _ = _; omega
 obtain ⟨ji, K1, K2, K3, K4⟩ := info_parts infoI
 have L1 := Tre.hid K1
 have L2 := Tre.hid K2
 have L3 := Tre.hid K3
 have L4 := Tre.hid K4
 obtain ⟨pF, hpF⟩ : ∃ pF : Nat → Bool, Hid (∀ i, pF i = (freeB (g.nd i) && g.markB mono i)) := ⟨_, fun _ => rfl⟩
 obtain ⟨pG, hpG⟩ : ∃ pG : Nat → Bool, Hid (∀ i, pG i = (freeB (g.nd i) && (!g.markB mono i && g.markB [g.root.toNat] i))) := ⟨_, fun _ => rfl⟩
 have EF : Hid (g.fixedL mono = (List.range g.ns.length).filter pF) := by show _ = _; unfold Graph.fixedL; congr 1; funext i; exact (hpF.out i).symm
 have EG : Hid (g.genericL mono = (List.range g.ns.length).filter pG) := by show _ = _; unfold Graph.genericL; congr 1; funext i; exact (hpG.out i).symm
 have HFL : Hid (∀ (p : Nat → Bool) (k : Nat), ((List.range k).filter p).length ≤ k) := fun p k => by have := List.length_filter_le p (List.range k); rwa [List.length_range] at this
 clear hg hl M c0 hm K1 K2 K3 K4
 go_enter Tryz.func33, Tryz.ntmps33
 go_upto_region 1 with fail
 go_cut [6, 7] (fun s6 s7 wx => ∃ vm vr : Value, s6 = vm ∧ s7 = vr ∧ Hid (Mem w wx [rowR 4 1 vm g.ns.length (metL g (g.dfs mono [])), rowR 4 1 vr g.ns.length (metL g (g.dfs [g.root.toNat] [])), cellsR w.heap.size 24 #[.slice a g.ns.length ca, .int .i64 g.root]]))
 case first =>
  have cS : Cond (fun w' => w'.cell? ⟨w.heap.size, 0, none⟩ = some (.slice a g.ns.length ca) ∧ w'.cell? ⟨w.heap.size, 1, none⟩ = some (.int .i64 g.root)) := ⟨⟩
  refine cS.keep [] ?_ (fun hH0 => ?_)
  ·exact HM0.out.drew.two 0 rfl
  have H0 := Tre.hid HM0.out.drew
  generalize hq : (w.alloc (.cells #[.slice a g.ns.length ca, .int .i64 g.root] 24)).drew = wq0 at H0 hH0 ⊢
  clear hq
  refine lPq 1 (some 11) (v := ?_) rfl ?_ (keep_of hH0) ?_
  rotate_left
  ·intro w; go_simp <;> with_reducible rfl
  try simp only [Act.put, zqf, zqg, zqh]
  refine lPq 4 (some 14) (v := ?_) rfl ?_ (keep_of hH0) ?_
  rotate_left
  ·intro w; go_simp <;> with_reducible rfl
  try simp only [Act.put, zqf, zqg, zqh]
  refine lTq 0 (some 10) (v := ?_) rfl ?_ hH0 ?_
  rotate_left
  ·intro w hSw; (try dsimp only at hSw); go_simp <;> with_reducible rfl
  try simp only [Act.put, zqf, zqg, zqh]
  refine lTq 3 (some 13) (v := ?_) rfl ?_ hH0 ?_
  rotate_left
  ·intro w hSw; (try dsimp only at hSw); go_simp <;> with_reducible rfl
  try simp only [Act.put, zqf, zqg, zqh]
  refine lTq 5 (some 15) (v := ?_) rfl ?_ hH0 ?_
  rotate_left
  ·intro w hSw; (try dsimp only at hSw); go_simp <;> with_reducible rfl
  try simp only [Act.put, zqf, zqg, zqh]
  refine lTwo 2 6 (by kernel_rfl) (LStep.op (fun K hK => ?_)) (LStep.op (fun K hK => ?_))
  ·
   go_simp
   refine (marks_any a ca g am cm mono _ (HG.out.below H0.out.below) C0.out wg (HL.out.below H0.out.below) HLM.out (by omega)).mono ?_
   rintro e wq1 ⟨vm, rfl, mq⟩
   have H1 := Tre.hid (H0.out.call mq)
   clear mq
   (try dsimp only)
   refine hK.out _ _ ?_ (fun hH1 => ?_)
   ·exact H1.out.two 1 rfl
   clear hK K hH0
   try simp only [Act.put, zqf, zqg, zqh]
   refine lOne 6 (by kernel_rfl) (LStep.op (fun K hK => ?_))
   go_simp
   have H2 := Tre.hid (H1.out.allocRow #[.int .i64 g.root] 3 1 1 (by unfold maxLen; omega) rfl)
   generalize hb : wq1.heap.size = b16 at H2 ⊢
   generalize hw : wq1.alloc (.cells #[.int .i64 g.root] 3) = wq2 at H2 ⊢
   clear hb hw
   refine hK.out _ _ ?_ (fun hH2 => ?_)
   ·exact H2.out.two 2 rfl
   clear hK K hH1
   try simp only [Act.put, zqf, zqg, zqh]
   refine lOne 7 (by kernel_rfl) (LStep.op (fun K hK => ?_))
   go_simp
   have RR := (H2.out.row 0 rfl)
   refine (marks_any a ca g (some ⟨b16, 0, none⟩) 1 [g.root.toNat] _ (HG.out.below H2.out.below) C0.out wg (by obtain ⟨a', c', e, _, r⟩ := row_read RR; cases e; rw [show ([g.root.toNat].map fun k : Nat => (k : Int)) = [g.root] by simp only [List.map_cons, List.map_nil, ← R0.out]]; exact r) (fun m hm => by simp at hm; rw [hm]; exact OG.out.root1) (by simp)).mono ?_
   rintro e wq3 ⟨vr, rfl, mq⟩
   have H3 := Tre.hid (H2.out.call mq)
   clear mq RR
   (try dsimp only)
   refine hK.out _ _ ?_ (fun hH3 => ?_)
   ·exact H3.out.two 3 rfl
   clear hK K hH2
   try simp only [Act.put, zqf, zqg, zqh]
   refine lPq 8 (some 6) (v := ?_) rfl ?_ (keep_of hH3) ?_
   rotate_left
   ·intro w; go_simp <;> with_reducible rfl
   try simp only [Act.put, zqf, zqg, zqh]
   refine lPq 9 (some 7) (v := ?_) rfl ?_ (keep_of hH3) ?_
   rotate_left
   ·intro w; go_simp <;> with_reducible rfl
   try simp only [Act.put, zqf, zqg, zqh]
   refine lDone (by kernel_rfl) ?_
   clear hH3
   go_wp2_with fail
   go_meet
   exact ⟨vm, vr, rfl, rfl, ((((H3.out.front 1 rfl).front 3 rfl).front 2 rfl).front 3 rfl).del 3⟩
  ·
   go_simp
   have H1 := Tre.hid (H0.out.allocRow #[.int .i64 g.root] 3 1 1 (by unfold maxLen; omega) rfl)
   generalize hb : wq0.heap.size = b16 at H1 ⊢
   generalize hw : wq0.alloc (.cells #[.int .i64 g.root] 3) = wq1 at H1 ⊢
   clear hb hw
   refine hK.out _ _ ?_ (fun hH4 => ?_)
   ·exact H1.out.two 1 rfl
   clear hK K hH0
   try simp only [Act.put, zqf, zqg, zqh]
   refine lOne 2 (by kernel_rfl) (LStep.op (fun K hK => ?_))
   go_simp
   refine (marks_any a ca g am cm mono _ (HG.out.below H1.out.below) C0.out wg (HL.out.below H1.out.below) HLM.out (by omega)).mono ?_
   rintro e wq2 ⟨vm, rfl, mq⟩
   have H2 := Tre.hid (H1.out.call mq)
   clear mq
   (try dsimp only)
   refine hK.out _ _ ?_ (fun hH5 => ?_)
   ·exact H2.out.two 2 rfl
   clear hK K hH4
   try simp only [Act.put, zqf, zqg, zqh]
   refine lOne 7 (by kernel_rfl) (LStep.op (fun K hK => ?_))
   go_simp
   have RR := (H2.out.row 1 rfl)
   refine (marks_any a ca g (some ⟨b16, 0, none⟩) 1 [g.root.toNat] _ (HG.out.below H2.out.below) C0.out wg (by obtain ⟨a', c', e, _, r⟩ := row_read RR; cases e; rw [show ([g.root.toNat].map fun k : Nat => (k : Int)) = [g.root] by simp only [List.map_cons, List.map_nil, ← R0.out]]; exact r) (fun m hm => by simp at hm; rw [hm]; exact OG.out.root1) (by simp)).mono ?_
   rintro e wq3 ⟨vr, rfl, mq⟩
   have H3 := Tre.hid (H2.out.call mq)
   clear mq RR
   (try dsimp only)
   refine hK.out _ _ ?_ (fun hH6 => ?_)
   ·exact H3.out.two 3 rfl
   clear hK K hH5
   try simp only [Act.put, zqf, zqg, zqh]
   refine lPq 8 (some 6) (v := ?_) rfl ?_ (keep_of hH6) ?_
   rotate_left
   ·intro w; go_simp <;> with_reducible rfl
   try simp only [Act.put, zqf, zqg, zqh]
   refine lPq 9 (some 7) (v := ?_) rfl ?_ (keep_of hH6) ?_
   rotate_left
   ·intro w; go_simp <;> with_reducible rfl
   try simp only [Act.put, zqf, zqg, zqh]
   refine lDone (by kernel_rfl) ?_
   clear hH6
   go_wp2_with fail
   go_meet
   exact ⟨vm, vr, rfl, rfl, ((((H3.out.front 2 rfl).front 3 rfl).front 2 rfl).front 3 rfl).del 3⟩
 case rest =>
  obtain ⟨vm, vr, rfl, rfl, hM⟩ := hcut
  obtain ⟨gm, cM, rfl, _⟩ := hM.out.val 0 rfl
  obtain ⟨gr, cR, rfl, _⟩ := hM.out.val 1 rfl
  obtain ⟨g0, g1⟩ := hM.out.two 2 rfl
  go_wp2_with fail
  go_loopw [4, 5, 21] (fun v4 v5 v21 wr => ∃ (k : Nat) (u4 u5 : Value), k ≤ g.ns.length ∧ v21 = .int .i64 k ∧ v4 = u4 ∧ v5 = u5 ∧ Hid (Mem w wr [rowR 3 1 u4 ((List.range k).filter pF).length (((List.range k).filter pF).map rk), rowR 3 1 u5 ((List.range k).filter pG).length (((List.range k).filter pG).map rk), rowR 4 1 (.slice gm g.ns.length cM) g.ns.length (metL g (g.dfs mono [])), rowR 4 1 (.slice gr g.ns.length cR) g.ns.length (metL g (g.dfs [g.root.toNat] [])), cellsR w.heap.size 24 #[.slice a g.ns.length ca, .int .i64 g.root]]))
   (fun _ _ v21 _ => g.ns.length - (intOf v21).toNat)
  case atStart => exact ⟨0, .slice none 0 0, .slice none 0 0, Nat.zero_le _, rfl, rfl, rfl, (hM.out.addNil 3 1).addNil 3 1⟩
  case round =>
   obtain ⟨k, u4, u5, hk, rfl, rfl, rfl, hR⟩ := hrel
   obtain ⟨a4, c4, rfl, _⟩ := hR.out.val 0 rfl
   obtain ⟨a5, c5, rfl, _⟩ := hR.out.val 1 rfl
   have hf1 := HFL.out pF k
   have hf2 := HFL.out pG k
   by_cases hlt : k < g.ns.length
   ·obtain ⟨b1, o1, rfl, nx⟩ := HG.out.at_ k (g.nd k) (by rw [Graph.nd_eq hlt]; exact List.getElem?_eq_getElem hlt)
    have hmo := OG.out.may k hlt
    obtain ⟨gm, rfl, _, _, m0⟩ := hR.out.getRow 2 rfl k (u := .bool (decide (k ∈ g.dfs mono []))) (by rw [metL, List.getElem?_map, List.getElem?_range hlt]; rfl)
    obtain ⟨gr, rfl, _, _, r0⟩ := hR.out.getRow 3 rfl k (u := .bool (decide (k ∈ g.dfs [g.root.toNat] []))) (by rw [metL, List.getElem?_map, List.getElem?_range hlt]; rfl)
    have HX : Hid (∀ y, y = g.nd k → freeB y = freeB (g.nd k)) := fun y e => by rw [e]
    have hfr : freeB (g.nd k) = (decide ((g.nd k).kind = 1) || (g.nd k).isOpen) := by
     unfold freeB
     cases ho : (g.nd k).isOpen
     ·simp
     ·have := may_open hmo ho; simp [this]
    obtain ⟨ax, cx, lx, dx, x0, x1, x2, x3, x4, xA, xL, _, _⟩ := nx
    have x0 := cell_below hR.out.below x0
    have x1 := cell_below hR.out.below x1
    have x2 := cell_below hR.out.below x2
    have x3 := cell_below hR.out.below x3
    have x4 := cell_below hR.out.below x4
    have i1 : (0 : Int) ≤ (k : Int) := by omega
    have i2 : (k : Int) < (g.ns.length : Int) := by omega
    have MA := hR.out.alloc (.cells #[.int .i64 (g.nd k).kind, .string (g.nd k).name, .slice ax (g.nd k).args.length cx, .slice lx (g.nd k).labels.length dx, .bool (g.nd k).isOpen] 40)
    have HMA := Tre.hid MA
    have m0 := MA.cellAt 2 rfl k (u := .bool (decide (k ∈ g.dfs mono []))) (by rw [metL, List.getElem?_map, List.getElem?_range hlt]; rfl)
    have r0 := MA.cellAt 3 rfl k (u := .bool (decide (k ∈ g.dfs [g.root.toNat] []))) (by rw [metL, List.getElem?_map, List.getElem?_range hlt]; rfl)
    have MB := Tre.hid (MA.allocRow #[.int .i64 (k : Int)] 3 1 1 (by unfold maxLen; omega) rfl)
    rw [heapSize_alloc] at MB
    clear hmo xA xL MA HX
    by_cases hk1 : (g.nd k).kind = 1
    ·have HFR : Hid (freeB (g.nd k) = true) := by show _ = _; rw [hfr, hk1]; simp
     rw [hk1] at x0
     have t1 : ((1 : Int) != 1) = false := rfl
     clear hfr
     rw [hk1] at HMA MB m0 r0
     clear hk1
     cases hm : decide (k ∈ g.dfs mono [])
     ·rw [hm] at m0
      have HMK : Hid (g.markB mono k = false) := hm
      clear hm
      cases hr : decide (k ∈ g.dfs [g.root.toNat] [])
      ·rw [hr] at r0
       have FF : Hid ((List.range (k + 1)).filter pF = (List.range k).filter pF) := by show _ = _; rw [range_filter, if_neg (by rw [hpF.out, HMK.out]; simp), List.append_nil]
       have FG : Hid ((List.range (k + 1)).filter pG = (List.range k).filter pG) := by
        have HRK : g.markB [g.root.toNat] k = false := hr
        show _ = _; rw [range_filter, if_neg (by rw [hpG.out, HRK]; simp), List.append_nil]
       clear hr
       go_wp2_with fail
       go_roundw
       case rel =>
        refine ⟨k + 1, _, _, by omega, by go_num, rfl, rfl, ?_⟩
        show Mem _ _ _
        rw [FF.out, FG.out]
        exact HMA.out
       case measure => simp [intOf]; omega
      ·rw [hr] at r0
       have FF : Hid ((List.range (k + 1)).filter pF = (List.range k).filter pF) := by show _ = _; rw [range_filter, if_neg (by rw [hpF.out, HMK.out]; simp), List.append_nil]
       have FG : Hid ((List.range (k + 1)).filter pG = (List.range k).filter pG ++ [k]) := by
        have HRK : g.markB [g.root.toNat] k = true := hr
        show _ = _; rw [range_filter, if_pos (by rw [hpG.out, HRK, HMK.out, HFR.out]; rfl)]
       clear hr
       go_wp2_with (at_builtin; refine wpList_append_row _ rfl _ _ 31 rfl 3 ji _ 1 8 Tryz.underlying31 L1.out L2.out L3.out L4.out rfl (by omega) (.slice a5 ((List.range k).filter pG).length c5) ((List.range k).filter pG).length (((List.range k).filter pG).map rk) rfl (MB.out.row 2 rfl) (some ⟨wr.heap.size + 1, 0, none⟩) 1 1 [.int .i64 (k : Int)] rfl ⟨rfl, fun j u hj => ⟨_, 0, rfl, by rw [Nat.zero_add]; exact MB.out.cellAt 0 rfl j hj⟩⟩ (by simp [Value.oneCell']) (by unfold maxLen; omega) (by omega) ?_; intro v' w4 hown4 hgrow4 hat4; have M4 := MB.out.grow 2 rfl hgrow4 hown4 hat4; obtain ⟨a9, c9, rfl, _⟩ := M4.val 2 rfl; have HM4 := Tre.hid M4; clear M4 hown4 hgrow4 hat4)
       go_roundw
       case rel =>
        refine ⟨k + 1, _, .slice a9 (((List.range k).filter pG).length + 1) c9, by omega, by go_num, rfl, rfl, ?_⟩
        show Mem _ _ _
        rw [FF.out, FG.out]
        rw [List.length_append, List.map_append]; exact HM4.out.del 0
       case measure => simp [intOf]; omega
     ·rw [hm] at m0
      have HMK : Hid (g.markB mono k = true) := hm
      have FF : Hid ((List.range (k + 1)).filter pF = (List.range k).filter pF ++ [k]) := by show _ = _; rw [range_filter, if_pos (by rw [hpF.out, HMK.out, HFR.out]; rfl)]
      have FG : Hid ((List.range (k + 1)).filter pG = (List.range k).filter pG) := by show _ = _; rw [range_filter, if_neg (by rw [hpG.out, HMK.out]; simp), List.append_nil]
      clear hm
      go_wp2_with (at_builtin; refine wpList_append_row _ rfl _ _ 31 rfl 3 ji _ 1 8 Tryz.underlying31 L1.out L2.out L3.out L4.out rfl (by omega) (.slice a4 ((List.range k).filter pF).length c4) ((List.range k).filter pF).length (((List.range k).filter pF).map rk) rfl (MB.out.row 1 rfl) (some ⟨wr.heap.size + 1, 0, none⟩) 1 1 [.int .i64 (k : Int)] rfl ⟨rfl, fun j u hj => ⟨_, 0, rfl, by rw [Nat.zero_add]; exact MB.out.cellAt 0 rfl j hj⟩⟩ (by simp [Value.oneCell']) (by unfold maxLen; omega) (by omega) ?_; intro v' w4 hown4 hgrow4 hat4; have M4 := MB.out.grow 1 rfl hgrow4 hown4 hat4; obtain ⟨a9, c9, rfl, _⟩ := M4.val 1 rfl; have HM4 := Tre.hid M4; clear M4 hown4 hgrow4 hat4)
      go_roundw
      case rel =>
       refine ⟨k + 1, .slice a9 (((List.range k).filter pF).length + 1) c9, _, by omega, by go_num, rfl, rfl, ?_⟩
       show Mem _ _ _
       rw [FF.out, FG.out]
       rw [List.length_append, List.map_append]; exact HM4.out.del 0
      case measure => simp [intOf]; omega
    ·have t1 : ((g.nd k).kind != 1) = true := by simp [hk1]
     cases ho : (g.nd k).isOpen
     ·have HFR : Hid (freeB (g.nd k) = false) := by show _ = _; rw [hfr, ho]; simp [hk1]
      have FF : Hid ((List.range (k + 1)).filter pF = (List.range k).filter pF) := by show _ = _; rw [range_filter, if_neg (by rw [hpF.out, HFR.out]; simp), List.append_nil]
      have FG : Hid ((List.range (k + 1)).filter pG = (List.range k).filter pG) := by show _ = _; rw [range_filter, if_neg (by rw [hpG.out, HFR.out]; simp), List.append_nil]
      rw [ho] at x4 HMA MB m0 r0
      clear ho hfr
      go_wp2_with fail
      go_roundw
      case rel =>
       refine ⟨k + 1, _, _, by omega, by go_num, rfl, rfl, ?_⟩
       show Mem _ _ _
       rw [FF.out, FG.out]
       exact HMA.out
      case measure => simp [intOf]; omega
     ·have HFR : Hid (freeB (g.nd k) = true) := by show _ = _; rw [hfr, ho]; simp
      rw [ho] at x4 HMA MB m0 r0
      clear ho hfr
      cases hm : decide (k ∈ g.dfs mono [])
      ·rw [hm] at m0
       have HMK : Hid (g.markB mono k = false) := hm
       clear hm
       cases hr : decide (k ∈ g.dfs [g.root.toNat] [])
       ·rw [hr] at r0
        have FF : Hid ((List.range (k + 1)).filter pF = (List.range k).filter pF) := by show _ = _; rw [range_filter, if_neg (by rw [hpF.out, HMK.out]; simp), List.append_nil]
        have FG : Hid ((List.range (k + 1)).filter pG = (List.range k).filter pG) := by
         have HRK : g.markB [g.root.toNat] k = false := hr
         show _ = _; rw [range_filter, if_neg (by rw [hpG.out, HRK]; simp), List.append_nil]
        clear hr
        go_wp2_with fail
        go_roundw
        case rel =>
         refine ⟨k + 1, _, _, by omega, by go_num, rfl, rfl, ?_⟩
         show Mem _ _ _
         rw [FF.out, FG.out]
         exact HMA.out
        case measure => simp [intOf]; omega
       ·rw [hr] at r0
        have FF : Hid ((List.range (k + 1)).filter pF = (List.range k).filter pF) := by show _ = _; rw [range_filter, if_neg (by rw [hpF.out, HMK.out]; simp), List.append_nil]
        have FG : Hid ((List.range (k + 1)).filter pG = (List.range k).filter pG ++ [k]) := by
         have HRK : g.markB [g.root.toNat] k = true := hr
         show _ = _; rw [range_filter, if_pos (by rw [hpG.out, HRK, HMK.out, HFR.out]; rfl)]
        clear hr
        go_wp2_with (at_builtin; refine wpList_append_row _ rfl _ _ 31 rfl 3 ji _ 1 8 Tryz.underlying31 L1.out L2.out L3.out L4.out rfl (by omega) (.slice a5 ((List.range k).filter pG).length c5) ((List.range k).filter pG).length (((List.range k).filter pG).map rk) rfl (MB.out.row 2 rfl) (some ⟨wr.heap.size + 1, 0, none⟩) 1 1 [.int .i64 (k : Int)] rfl ⟨rfl, fun j u hj => ⟨_, 0, rfl, by rw [Nat.zero_add]; exact MB.out.cellAt 0 rfl j hj⟩⟩ (by simp [Value.oneCell']) (by unfold maxLen; omega) (by omega) ?_; intro v' w4 hown4 hgrow4 hat4; have M4 := MB.out.grow 2 rfl hgrow4 hown4 hat4; obtain ⟨a9, c9, rfl, _⟩ := M4.val 2 rfl; have HM4 := Tre.hid M4; clear M4 hown4 hgrow4 hat4)
        go_roundw
        case rel =>
         refine ⟨k + 1, _, .slice a9 (((List.range k).filter pG).length + 1) c9, by omega, by go_num, rfl, rfl, ?_⟩
         show Mem _ _ _
         rw [FF.out, FG.out]
         rw [List.length_append, List.map_append]; exact HM4.out.del 0
        case measure => simp [intOf]; omega
      ·rw [hm] at m0
       have HMK : Hid (g.markB mono k = true) := hm
       have FF : Hid ((List.range (k + 1)).filter pF = (List.range k).filter pF ++ [k]) := by show _ = _; rw [range_filter, if_pos (by rw [hpF.out, HMK.out, HFR.out]; rfl)]
       have FG : Hid ((List.range (k + 1)).filter pG = (List.range k).filter pG) := by show _ = _; rw [range_filter, if_neg (by rw [hpG.out, HMK.out]; simp), List.append_nil]
       clear hm
       go_wp2_with (at_builtin; refine wpList_append_row _ rfl _ _ 31 rfl 3 ji _ 1 8 Tryz.underlying31 L1.out L2.out L3.out L4.out rfl (by omega) (.slice a4 ((List.range k).filter pF).length c4) ((List.range k).filter pF).length (((List.range k).filter pF).map rk) rfl (MB.out.row 1 rfl) (some ⟨wr.heap.size + 1, 0, none⟩) 1 1 [.int .i64 (k : Int)] rfl ⟨rfl, fun j u hj => ⟨_, 0, rfl, by rw [Nat.zero_add]; exact MB.out.cellAt 0 rfl j hj⟩⟩ (by simp [Value.oneCell']) (by unfold maxLen; omega) (by omega) ?_; intro v' w4 hown4 hgrow4 hat4; have M4 := MB.out.grow 1 rfl hgrow4 hown4 hat4; obtain ⟨a9, c9, rfl, _⟩ := M4.val 1 rfl; have HM4 := Tre.hid M4; clear M4 hown4 hgrow4 hat4)
       go_roundw
       case rel =>
        refine ⟨k + 1, .slice a9 (((List.range k).filter pF).length + 1) c9, _, by omega, by go_num, rfl, rfl, ?_⟩
        show Mem _ _ _
        rw [FF.out, FG.out]
        rw [List.length_append, List.map_append]; exact HM4.out.del 0
       case measure => simp [intOf]; omega
   ·have e : k = g.ns.length := by omega
    subst e
    go_wp2_with fail
    go_ret2
    refine ⟨_, _, rfl, ?_⟩
    rw [EF.out, EG.out]
    exact hR.out.sub (by simp)
end Go.Proofs.YtlkfhbmjemjohaaGreatDoor.gr
namespace Go.Tre
theorem mono_ok {g : Tre.Graph} {mono : List Nat} (c0 : g.checkC = 0) (hm : ∀ m ∈ mono, m < g.ns.length) : g.monoC (mono.map fun k : Nat => (k : Int)) = 0 := by
 unfold Graph.monoC
 rw [if_neg (by simp [c0]), if_neg]
 intro h
 obtain ⟨z, hz, e⟩ := List.any_eq_true.1 h
 obtain ⟨m, hm', rfl⟩ := List.mem_map.1 hz
 have := hm m hm'
 unfold outside at e
 simp only [Bool.or_eq_true, decide_eq_true_eq] at e
 omega
end Go.Tre
namespace Go.Proofs.YtlkfhbmjemjohaaGreatDoor.gr
open Go.RowKit Go.Shelf Go.Maps Go.Tre lex
set_option maxHeartbeats 1000000 in
theorem generic_ok (a : Option Addr) (ca : Nat) (g : Tre.Graph) (am : Option Addr) (cm : Nat) (mono : List Nat) (w : World) (hg : NodesAt w a g.ns) (c0 : g.checkC = 0) (wg : g.weight ≤ 2097152) (hl : IntsAt w am (mono.map fun k : Nat => (k : Int))) (hm : ∀ m ∈ mono, m < g.ns.length) (hll : mono.length ≤ 2097152) (hx : MaxAt w) :
  Calls Tryz.prog 10 #[.agg #[.slice a g.ns.length ca, .int .i64 g.root], .slice am mono.length cm] w fun e w' =>
   ∃ v, e = .returned (.tuple #[v, .int .i64 0]) ∧ Mem w w' [rowR 3 1 v (g.genericL mono).length ((g.genericL mono).map rk)] := by
 have M := (Mem.nil w).allocR #[.slice a g.ns.length ca, .int .i64 g.root] 24
 have CK := gcheck_any a ca g am cm (mono.map fun k : Nat => (k : Int)) _ (hg.below M.below) wg (hl.below M.below) (by rw [List.length_map]; omega) (hx.below M.below)
 rw [List.length_map, mono_ok c0 hm] at CK
 have HCK := Tre.hid CK
 have HG := Tre.hid hg
 have HL := Tre.hid hl
 have HM0 := Tre.hid M
 have C0 := Tre.hid c0
 have HLM := Tre.hid hm
 clear hg hl hx c0 hm M CK
 go_enter Tryz.func10, Tryz.ntmps10
 go_wp2_with fail
 refine HCK.out.mono ?_
 rintro e w1 ⟨rfl, b1⟩
 have M1 := HM0.out.quiet b1
 obtain ⟨g0, g1⟩ := M1.two 0 rfl
 have HM1 := Tre.hid M1
 clear M1 b1
 go_wp2_with fail
 refine (sorts_any a ca g am cm mono _ (HG.out.below HM1.out.below) C0.out wg (HL.out.below HM1.out.below) HLM.out hll).mono ?_
 rintro e w2 ⟨v1, v2, rfl, m2⟩
 have HM2 := Tre.hid (HM1.out.call m2)
 clear m2
 go_wp2_with fail
 go_ret2
 exact ⟨_, rfl, (HM2.out.del 0).del 1⟩
end Go.Proofs.YtlkfhbmjemjohaaGreatDoor.gr
