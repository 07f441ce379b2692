/- gen.marks, gen.check. -/
import Derived.Test.YtlkfhbmjemjohaaMarkp
import Derived.Test.YtlkfhbmjemjohaaBits
import Derived.Test.YtlkfhbmjemjohaaApp
import Derived.Test.YtlkfhbmjemjohaaRegw
import Derived.Test.YtlkfhbmjemjohaaSama
import Derived.Deep.LoopGhost
namespace Go.Tre
def Graph.monoC (g : Tre.Graph) (mono : List Int) : Int := if g.checkC ≠ 0 then g.checkC else if mono.any (outside g.ns.length) then 2 else 0
end Go.Tre
namespace Go.Proofs.Ytlkfhbmjemjohaa.gr
open Go.RowKit Go.Shelf Go.Maps Go.Tre lex
theorem metL_same {g : Tre.Graph} {V W : List Nat} (h : ∀ i, i ∈ V ↔ i ∈ W) : metL g V = metL g W := by
  unfold metL
  refine List.map_congr_left (fun i _ => ?_)
  simp only [h i]
theorem made_bools (g : Tre.Graph) : (madeCells (Value.bool false).cells (g.ns.length * 1)).toList = metL g [] := by
  rw [show (Value.bool false).cells = #[Value.bool false] from rfl, toList_madeCells_one, Nat.mul_one]
  unfold metL
  apply List.ext_getElem
  · simp
  · intro i h1 h2
    simp
theorem casts_map (l : List Nat) : (l.map fun k : Nat => (k : Int)).map (Value.int .i64) = l.map rk := by rw [List.map_map]; rfl

set_option maxRecDepth 100000 in
set_option maxHeartbeats 4000000 in
theorem marks_any (a : Option Addr) (ca : Nat) (g : Tre.Graph) (al : Option Addr) (cl : Nat) (l : List Nat) (w : World) (hg : NodesAt w a g.ns) (c0 : g.checkC = 0) (wg : g.weight ≤ 2097152) (hl : IntsAt w al (l.map fun k : Nat => (k : Int))) (hm : ∀ m ∈ l, m < g.ns.length) (hll : l.length ≤ 2097152) :
    Calls Try.prog 40 #[.agg #[.slice a g.ns.length ca, .int .i64 g.root], .slice al l.length cl] w fun e w' =>
      ∃ v, e = .returned v ∧ Mem w w' [rowR 4 1 v g.ns.length (metL g (g.dfs l []))] := by
  have M := (Mem.nil w).allocR #[.slice a g.ns.length ca, .int .i64 g.root] 24
  have HG := Tre.hid hg
  have HL := Tre.hid hl
  have HM0 := Tre.hid M
  have OG := Tre.hid (Graph.ok_of c0)
  have hgl := OG.out.len
  have hbl := g.budget_le
  have HMI := Tre.hid (MI.start (g := g) hm)
  have HLM := Tre.hid hm
  obtain ⟨ib, hb1, hb2, hb3, hb4⟩ := info_parts infoB
  have B1 := Tre.hid hb1
  have B2 := Tre.hid hb2
  have B3 := Tre.hid hb3
  have B4 := Tre.hid hb4
  obtain ⟨ji, K1, K2, K3, K4⟩ := info_parts infoI
  have L1 := Tre.hid K1
  have L2 := Tre.hid K2
  have L3 := Tre.hid K3
  have L4 := Tre.hid K4
  obtain ⟨wm, hmk, hmo, hmg⟩ := run_make_full (P := Try.prog) (w.alloc (.cells #[.slice a g.ns.length ca, .int .i64 g.root] 24)) 0 52 4 ib _ 1 Try.underlying52 hb1 hb2 hb3 .i64 .i64 g.ns.length (by rw [hb4]; omega) (by unfold maxLen; omega) (Nat.zero_le _)
  rw [made_bools, heapSize_alloc] at hmo
  have MV : Mem w wm [rowR 4 1 (.slice (some ⟨w.heap.size + 1, 0, none⟩) g.ns.length g.ns.length) g.ns.length (metL g []), cellsR w.heap.size 24 #[.slice a g.ns.length ca, .int .i64 g.root]] :=
    M.add hmg (rowR 4 1 _ g.ns.length (metL g [])) hmo (fun b hb => by have : some (w.heap.size + 1) = some b := hb; cases this; simp)
  have HMV := Tre.hid MV
  have CL := cloneInts al cl (l.map fun k : Nat => (k : Int)) wm (hl.below MV.below) (by rw [List.length_map]; omega)
  rw [List.length_map, casts_map] at CL
  have HCL := Tre.hid CL
  rw [heapSize_alloc] at hmk
  obtain ⟨bm, hbm⟩ : ∃ bm : Nat, w.heap.size + 1 = bm := ⟨_, rfl⟩
  clear hg hl M c0 hm hb1 hb2 hb3 hb4 K1 K2 K3 K4 hmo hmg MV CL
  go_enter Try.func40, Try.ntmps40
  go_wp2_with fail
  refine HCL.out.mono ?_
  rintro e w2 ⟨v6, rfl, m2⟩
  have HM2 := Tre.hid (HMV.out.call m2)
  rw [hbm] at HM2
  clear m2 hmk hbm HMV HCL HL
  obtain ⟨a6, c6, rfl, _⟩ := HM2.out.val 0 rfl
  go_wp2_with fail
  go_loopg [6] (g.budget [] + l.length) (fun gk v6 wr => ∃ V s : List Nat, Hid (MI g l V s ∧ gk = g.budget V + s.length) ∧ Hid (Mem w wr [rowR 3 1 v6 s.length (s.map rk), rowR 4 1 (.slice (some ⟨bm, 0, none⟩) g.ns.length g.ns.length) g.ns.length (metL g V), cellsR w.heap.size 24 #[.slice a g.ns.length ca, .int .i64 g.root]]))
  case atStart => exact ⟨[], l, ⟨HMI.out, rfl⟩, HM2.out⟩
  case round =>
    obtain ⟨V, s, hI, hM⟩ := hrel
    have hsl : s.length ≤ 4194304 := by have := hI.out.1.le; omega
    rcases List.eq_nil_or_concat s with rfl | ⟨s, x, rfl⟩
    · obtain ⟨a6, c6, rfl, _⟩ := hM.out.val 0 rfl
      go_wp2_with fail
      go_ret
      refine ⟨_, rfl, ?_⟩
      rw [← metL_same (fun i => hI.out.1.done OG.out HLM.out i)]
      exact (hM.out.del 0).del 1
    · rw [List.concat_eq_append] at hI hM hsl
      have hM' := hM.out
      rw [List.length_append, List.length_singleton, List.map_append] at hM'
      obtain ⟨g6, c6, rfl, _, _⟩ := hM'.pos 0 rfl
      have k0 : wr.cell? ⟨g6, s.length, none⟩ = some (.int .i64 (x : Int)) := hM'.cellAt 0 rfl s.length (by rw [List.getElem?_append_right (by simp), List.length_map, Nat.sub_self]; rfl)
      have hcc : s.length + 1 ≤ c6 := by obtain ⟨_, _, e, h⟩ := hM'.val 0 rfl; cases e; exact h
      have MP := hM'.pop 0 rfl (by simp)
      have hxl : x < g.ns.length := hI.out.1.slt x (by simp)
      have m0 : wr.cell? ⟨bm, x, none⟩ = some (.bool (decide (x ∈ V))) := hM'.cellAt 1 rfl x (by rw [metL, List.getElem?_map, List.getElem?_range hxl]; rfl)
      have mf := hM'.freeAt 1 rfl x
      have HMP := Tre.hid MP
      have i1 : (0 : Int) ≤ (x : Int) := by omega
      have i2 : (x : Int) < (g.ns.length : Int) := by omega
      rw [List.length_append, List.length_singleton] at hsl
      clear hM' MP hM
      by_cases hxV : x ∈ V
      · have HI2 := Tre.hid (hI.out.1.skip hxV)
        have em : decide (x ∈ V) = true := by simp [hxV]
        rw [em] at m0
        clear em
        go_wp2_with fail
        go_roundg (g.budget V + s.length)
        case measure => have := hI.out.2; rw [this]; simp
        case rel => exact ⟨V, s, ⟨HI2.out, rfl⟩, HMP.out⟩
      · have HI2 := Tre.hid (hI.out.1.mark OG.out hxV)
        have em : decide (x ∈ V) = false := by simp [hxV]
        rw [em] at m0
        have M2 := HMP.out.setRow 1 rfl x (.bool true)
        have e2 : (metL g V).set x (.bool true) = metL g (V ++ [x]) := (metL_set g V x).symm
        rw [e2] at M2
        obtain ⟨g0, g1⟩ := M2.two 2 rfl
        have HBS := Tre.hid (Graph.budget_step (g := g) hxl hxV)
        obtain ⟨b1, o1, rfl, nx⟩ := HG.out.at_ x (g.nd x) (by rw [Graph.nd_eq hxl]; exact List.getElem?_eq_getElem hxl)
        have hax := OG.out.kids_eq hxl
        have hkl := g.kids_len x
        have hdg : g.deg x ≤ g.weight := by
          have h1 := args_len (g.nd x)
          have h2 : (g.nd x).weight ≤ g.weight := by rw [Graph.nd_eq hxl]; exact node_weight (List.getElem_mem hxl)
          have h3 : g.deg x = (g.nd x).args.length := rfl
          omega
        obtain ⟨ax, cx, lx, dx, x0, x1, x2, x3, x4, xA, xL, _, _⟩ := nx
        have xA := xA.below M2.below
        have x2 := cell_below M2.below x2
        have hdl : (g.nd x).args.length = (g.kids x).length := by rw [hkl]; rfl
        rw [hdl] at x2
        have XA : Hid (IntsAt (wr.setCell ⟨bm, x, none⟩ (.bool true)) ax ((g.kids x).map fun k : Nat => (k : Int))) := by rw [← hax]; exact xA
        have hkl2 : (g.kids x).length ≤ 2097152 := by omega
        have HKL := Tre.hid hkl
        have HM2' := Tre.hid M2
        clear hax hkl hdl xA xL x0 x1 x3 x4 M2 em e2 hdg
        go_wp2_with (at_builtin; refine wpList_append_row _ rfl _ _ 25 rfl 3 ji _ 1 8 Try.underlying25 L1.out L2.out L3.out L4.out rfl (by omega) (.slice (some ⟨g6, 0, none⟩) s.length c6) s.length (s.map rk) rfl (HM2'.out.row 0 rfl) ax (g.kids x).length cx ((g.kids x).map rk) rfl (by have h := XA.out; rw [IntsAt, List.length_map, casts_map] at h; exact h) (fun u hu => by obtain ⟨z, _, rfl⟩ := List.mem_map.1 hu; rfl) (by unfold maxLen; omega) (by omega) ?_; intro v' w4 hown4 hgrow4 hat4; have M4 := HM2'.out.grow 0 rfl hgrow4 hown4 hat4; obtain ⟨a4, c4, rfl, _⟩ := M4.val 0 rfl; have HM4 := Tre.hid M4; clear M4 hown4 hgrow4 hat4)
        go_roundg (g.budget (V ++ [x]) + (s ++ g.kids x).length)
        case measure =>
          have h1 := hI.out.2
          have h2 := HBS.out
          have h3 := HKL.out
          rw [h1]
          simp only [List.length_append, List.length_singleton]
          omega
        case rel =>
          refine ⟨V ++ [x], s ++ g.kids x, ⟨HI2.out, rfl⟩, ?_⟩
          rw [List.length_append, List.map_append]
          exact HM4.out

set_option maxHeartbeats 1000000 in
theorem check1g (x : Int) (bg : Nat) (an : Option Addr) (size cap : Nat) (w : World) (hc : w.cell? ⟨bg, 0, none⟩ = some (.slice an size cap)) :
    Calls Try.prog 39 #[.int .i64 x, .pointer (some ⟨bg, 0, none⟩)] w fun e w' => e = .returned (.bool (outside size x)) ∧ Below w.heap.size w w' := by
  by_cases h0 : x < 0
  · have H : Hid (outside size x = true) := by show _ = _; unfold outside; simp [h0]
    go_enter Try.func39, Try.ntmps39
    go_wp2_with fail
    go_ret
    exact ⟨ret_bool H.out.symm, Below.refl _ _⟩
  · have H : Hid (outside size x = decide ((size : Int) ≤ x)) := by show _ = _; unfold outside; simp [h0]
    go_enter Try.func39, Try.ntmps39
    go_wp2_with fail
    go_ret
    exact ⟨ret_bool H.out.symm, Below.refl _ _⟩
theorem hcfG (args : Array Value) (w : World) : (callFunc 39 args).run Try.prog w = .ok (.enter 39 args) w := by kernel_rfl
theorem gcheck_any (a : Option Addr) (ca : Nat) (g : Tre.Graph) (am : Option Addr) (cm : Nat) (mono : List Int) (w : World) (hg : NodesAt w a g.ns) (wg : g.weight ≤ 2097152) (hl : IntsAt w am mono) (hll : mono.length ≤ 8388608) (hm : MaxAt w) :
    Calls Try.prog 23 #[.agg #[.slice a g.ns.length ca, .int .i64 g.root], .slice am mono.length cm] w fun e w' => e = .returned (.int .i64 (g.monoC mono)) ∧ Below w.heap.size w w' := by
  have M := (Mem.nil w).allocR #[.slice a g.ns.length ca, .int .i64 g.root] 24
  have HG := Tre.hid hg
  have HL := Tre.hid hl
  have HM := Tre.hid hm
  have HM0 := Tre.hid M
  clear hg hl hm M
  by_cases c0 : g.checkC = 0
  · have u0 : (g.checkC != 0) = false := by rw [c0]; rfl
    have HC : Hid (g.monoC mono = if mono.any (outside g.ns.length) then 2 else 0) := by show _ = _; unfold Graph.monoC; simp [c0]
    clear c0
    go_enter Try.func23, Try.ntmps23
    go_wp2_with fail
    refine (check_any a ca g _ (HG.out.below HM0.out.below) (by omega) (HM.out.below HM0.out.below)).mono ?_
    rintro e w1 ⟨rfl, b1⟩
    have M1 := HM0.out.quiet b1
    have g0 := (M1.two 0 rfl).1
    have HM1 := Tre.hid M1
    clear M1 b1
    go_wp2_with fail
    refine (containsInts 39 #[.pointer (some ⟨w.heap.size, 0, none⟩)] hcfG (outside g.ns.length) _ _ mono _ (HL.out.below HM1.out.below) hll (fun x wx _ hbx => check1g x _ a g.ns.length ca wx (cell_below hbx g0))).mono ?_
    rintro e w2 ⟨rfl, b2⟩
    have HM2 := Tre.hid (HM1.out.quiet b2)
    clear b2
    cases hx : mono.any (outside g.ns.length)
    all_goals
      have HX := Tre.hid hx
      clear hx
      go_wp2_with fail
      go_ret
      exact ⟨ret_int (by rw [HC.out, HX.out]; rfl), HM2.out.below⟩
  · have u0 := not_ok c0
    have HC : Hid (g.monoC mono = g.checkC) := by show _ = _; unfold Graph.monoC; rw [if_pos c0]
    clear c0
    go_enter Try.func23, Try.ntmps23
    go_wp2_with fail
    refine (check_any a ca g _ (HG.out.below HM0.out.below) (by omega) (HM.out.below HM0.out.below)).mono ?_
    rintro e w1 ⟨rfl, b1⟩
    have HM1 := Tre.hid (HM0.out.quiet b1)
    clear b1
    go_wp2_with fail
    go_ret
    exact ⟨ret_int (by rw [HC.out]), HM1.out.below⟩
end Go.Proofs.Ytlkfhbmjemjohaa.gr
