/- The reference's visit, Reach, Free. -/
import Derived.Test.YtgngnkajjldnlaaVisp
import Derived.Test.YtgngnkajjldnlaaRchk
import Derived.Test.YtgngnkajjldnlaaFree
namespace Go.Proofs.Ytgngnkajjldnlaa.gr
open Go.RowKit Go.Shelf Go.Maps Go.Tre lex

set_option maxRecDepth 100000 in
set_option maxHeartbeats 8000000 in
theorem visit_any (a : Option Addr) (ca : Nat) (g : Tre.Graph) (w0 : World) (hg : NodesAt w0 a g.ns) (c0 : g.checkC = 0) (wg : g.weight ≤ 2097152) (bm : Nat) : ∀ (fuel : Nat) (x : Nat) (out : List Nat) (vO : Value) (w : World) (rs : List Res),
    g.budget out ≤ fuel → x < g.ns.length → out.Nodup → (∀ y ∈ out, y < g.ns.length) →
    Mem w0 w (rowR 4 1 (.slice (some ⟨bm, 0, none⟩) g.ns.length g.ns.length) g.ns.length (metL g out) :: rowR 3 1 vO out.length (out.map rk) :: rs) →
    Calls Try.prog 36 #[.agg #[.slice a g.ns.length ca, .int .i64 g.root], .int .i64 x, .slice (some ⟨bm, 0, none⟩) g.ns.length g.ns.length, vO] w fun e w' =>
      ∃ v, e = .returned v ∧ Mem w0 w' (rowR 4 1 (.slice (some ⟨bm, 0, none⟩) g.ns.length g.ns.length) g.ns.length (metL g (g.dfs [x] out)) :: rowR 3 1 v (g.dfs [x] out).length ((g.dfs [x] out).map rk) :: rs) := by
  have OG := Tre.hid (Graph.ok_of c0)
  have hgl := OG.out.len
  have HG := Tre.hid hg
  clear hg c0
  intro fuel
  induction fuel with
  | zero =>
    intro x out vO w rs hb hx hn ho hM
    -- every node is met
    have hin : x ∈ out := by
      by_cases h : x ∈ out
      · exact h
      · have := Graph.budget_step (g := g) hx h; omega
    have m0 := hM.cellAt 0 rfl x (u := .bool true) (by rw [metL, List.getElem?_map, List.getElem?_range hx]; simp [hin])
    have M1 := hM.alloc (.cells #[.slice a g.ns.length ca, .int .i64 g.root] 24)
    have m1 := M1.cellAt 0 rfl x (u := .bool true) (by rw [metL, List.getElem?_map, List.getElem?_range hx]; simp [hin])
    obtain ⟨aO, cO, rfl, _⟩ := M1.val 1 rfl
    have HM1 := Tre.hid M1
    have HIN := Tre.hid hin
    have i1 : (0 : Int) ≤ x := by omega
    have i2 : (x : Int) < g.ns.length := by omega
    clear hM M1 hin m0
    go_enter Try.func36, Try.ntmps36
    go_wp2_with fail
    go_ret
    refine ⟨_, rfl, ?_⟩
    rw [Graph.dfs_skip HIN.out, Graph.dfs_nil]
    exact HM1.out
  | succ fuel ih =>
    intro x out vO w rs hb hx hn ho hM
    have IH := Tre.hid ih
    clear ih
    have i1 : (0 : Int) ≤ x := by omega
    have i2 : (x : Int) < g.ns.length := by omega
    by_cases hin : x ∈ out
    · have M1 := hM.alloc (.cells #[.slice a g.ns.length ca, .int .i64 g.root] 24)
      have m1 := M1.cellAt 0 rfl x (u := .bool true) (by rw [metL, List.getElem?_map, List.getElem?_range hx]; simp [hin])
      obtain ⟨aO, cO, rfl, _⟩ := M1.val 1 rfl
      have HM1 := Tre.hid M1
      have HIN := Tre.hid hin
      clear hM M1 hin
      go_enter Try.func36, Try.ntmps36
      go_wp2_with fail
      go_ret
      refine ⟨_, rfl, ?_⟩
      rw [Graph.dfs_skip HIN.out, Graph.dfs_nil]
      exact HM1.out
    · have M1 := hM.allocR #[.slice a g.ns.length ca, .int .i64 g.root] 24
      have m1 := M1.cellAt 1 rfl x (u := .bool false) (by rw [metL, List.getElem?_map, List.getElem?_range hx]; simp [hin])
      have mf := M1.freeAt 1 rfl x
      obtain ⟨aO, cO, rfl, _⟩ := M1.val 2 rfl
      have M2 := M1.setRow 1 rfl x (.bool true)
      have e2 : (metL g out).set x (.bool true) = metL g (out ++ [x]) := (metL_set g out x).symm
      have M3 := M2.alloc (.cells #[.int .i64 (x : Int)] 3)
      have hol := nodup_len hn ho
      have hst := Graph.budget_step (g := g) hx hin
      have hn2 : (out ++ [x]).Nodup := List.nodup_append.2 ⟨hn, by simp, fun p hp q hq e => by simp at hq; subst hq; subst e; exact hin hp⟩
      have ho2 : ∀ y ∈ out ++ [x], y < g.ns.length := fun y hy => by
        rcases List.mem_append.1 hy with h | h
        · exact ho y h
        · simp at h; rw [h]; exact hx
      have hdt : g.dfs [x] out = g.dfs (g.kids x) (out ++ [x]) := by rw [Graph.dfs_take hin hx, List.append_nil]
      have HNB : Hid ((((w.alloc (.cells #[.slice a g.ns.length ca, .int .i64 g.root] 24)).setCell ⟨bm, x, none⟩ (.bool true)).alloc (.cells #[.int .i64 (x : Int)] 3)).heap[w.heap.size + 1]? = some (.cells #[.int .i64 (x : Int)] 3)) := by
        have := heap_alloc_new ((w.alloc (.cells #[.slice a g.ns.length ca, .int .i64 g.root] 24)).setCell ⟨bm, x, none⟩ (.bool true)) (.cells #[.int .i64 (x : Int)] 3)
        rwa [show ((w.alloc (.cells #[.slice a g.ns.length ca, .int .i64 g.root] 24)).setCell ⟨bm, x, none⟩ (.bool true)).heap.size = w.heap.size + 1 by simp [World.setCell]] at this
      have HM3 := Tre.hid M3
      have E2 := Tre.hid e2
      have HN2 := Tre.hid hn2
      have HO2 := Tre.hid ho2
      have HDT := Tre.hid hdt
      obtain ⟨ii, I1, I2, I3, I4⟩ := info_parts infoI
      have J1 := Tre.hid I1
      have J2 := Tre.hid I2
      have J3 := Tre.hid I3
      have J4 := Tre.hid I4
      obtain ⟨b1, o1, rfl, nx⟩ := HG.out.at_ x (g.nd x) (by rw [Graph.nd_eq hx]; exact List.getElem?_eq_getElem hx)
      have hXw : (g.nd x).weight ≤ g.weight := by rw [Graph.nd_eq hx]; exact node_weight (List.getElem_mem hx)
      have hXa := args_len (g.nd x)
      have hkk := OG.out.kids_eq hx
      have hkl := OG.out.kids_lt hx
      generalize hX : g.nd x = X at *
      have HX := Tre.hid hX
      have HKK := Tre.hid hkk
      have HKL := Tre.hid hkl
      have hlk : (g.kids x).length = X.args.length := by rw [hkk, List.length_map]
      have HLK := Tre.hid hlk
      obtain ⟨ax, cx, lx, dx, x0, x1, x2, x3, x4, xA, xL, _, _⟩ := nx
      have XA := Tre.hid xA
      have X2 := Tre.hid x2
      obtain ⟨g0, g1⟩ := M1.two 0 rfl
      have hz : w.heap.size + 1 ≤ (w.alloc (.cells #[.slice (some ⟨b1, o1, none⟩) g.ns.length ca, .int .i64 g.root] 24)).heap.size := by simp
      clear hM M1 M2 M3 e2 hn2 ho2 hdt I1 I2 I3 I4 hX xA xL x0 x1 x2 x3 x4 hkk hkl hlk hn ho
      go_enter Try.func36, Try.ntmps36
      go_wp2_with (at_builtin; refine wpList_append_own_at _ rfl _ _ 30 rfl 0 3 ii _ 1 8 Try.underlying30 J1.out J2.out J3.out J4.out rfl (by omega) (.slice aO out.length cO) out.length (out.map rk) rfl (HM3.out.row 2 rfl) ⟨w.heap.size + 1, 0, none⟩ 1 1 [.int .i64 (x : Int)] rfl rfl (World.news_of_block (cs := #[.int .i64 (x : Int)]) (t := 3) (fr := (0, 0)) HNB.out) (by simp [Value.oneCell']) (by unfold maxLen; omega) (by omega) (Nat.zero_le _) ?_; intro v' w4 hown4 hgrow4 hnil4 hat4; have M4 := HM3.out.grow 2 rfl hgrow4 hown4 hat4; obtain ⟨a4, c4, rfl, _⟩ := M4.val 2 rfl; obtain ⟨g0, g1⟩ := M4.two 0 rfl; have x2 := cell_below M4.below X2.out; have M5 := (M4.front 2 rfl).front 2 rfl; have HM5 := Tre.hid M5; clear M4 M5 hown4 hgrow4 hnil4 hat4)
      go_loopw [3, 30] (fun v3 v30 wi => ∃ i : Nat, i ≤ X.args.length ∧ v30 = .int .i64 i ∧
          Hid (Mem w0 wi (rowR 4 1 (.slice (some ⟨bm, 0, none⟩) g.ns.length g.ns.length) g.ns.length (metL g (g.dfs ((g.kids x).take i) (out ++ [x]))) :: rowR 3 1 v3 (g.dfs ((g.kids x).take i) (out ++ [x])).length ((g.dfs ((g.kids x).take i) (out ++ [x])).map rk) ::
            cellsR w.heap.size 24 #[.slice (some ⟨b1, o1, none⟩) g.ns.length ca, .int .i64 g.root] :: rs)))
        (fun _ v30 _ => X.args.length - (intOf v30).toNat)
      case atStart =>
        refine ⟨0, Nat.zero_le _, rfl, ?_⟩
        rw [List.take_zero, Graph.dfs_nil, List.length_append, List.length_singleton, List.map_append, ← E2.out]
        exact HM5.out
      case round =>
        obtain ⟨i, hi, rfl, hI⟩ := hrel
        obtain ⟨a3, c3, rfl, _⟩ := hI.out.val 1 rfl
        have hdi := Graph.dfs_in OG.out (s := (g.kids x).take i) HN2.out HO2.out (fun y hy => HKL.out y (List.mem_of_mem_take hy))
        have hbo : g.budget (g.dfs ((g.kids x).take i) (out ++ [x])) ≤ fuel := by
          have := Graph.budget_mono (g := g) (o := out ++ [x]) (o' := g.dfs ((g.kids x).take i) (out ++ [x])) (Graph.dfs_grow _ _ _ (Nat.le_refl _))
          omega
        have HDI := Tre.hid hdi
        clear hdi
        by_cases hil : i < X.args.length
        · have hki : i < (g.kids x).length := by rw [HLK.out]; exact hil
          obtain ⟨b2, o2, rfl, xc⟩ := XA.out.at_ i (.int .i64 ((g.kids x)[i] : Int)) (by rw [HKK.out, List.map_map, List.getElem?_map, List.getElem?_eq_getElem hki]; rfl)
          have hyl := HKL.out _ (List.getElem_mem hki)
          have HTS : Hid ((g.kids x).take (i + 1) = (g.kids x).take i ++ [(g.kids x)[i]]) := take_snoc_n hki
          generalize (g.kids x)[i] = y at *
          have xc' := cell_below hI.out.below xc
          obtain ⟨g0, g1⟩ := hI.out.two 2 rfl
          have l1 : (0 : Int) ≤ i := by omega
          have l2 : (i : Int) < X.args.length := by omega
          clear xc
          go_wp2_with fail
          refine (IH.out y _ _ wr _ hbo hyl HDI.out.1 HDI.out.2 hI.out).mono ?_
          rintro e w5 ⟨v5, rfl, m5⟩
          rw [← Graph.dfs_snoc, ← HTS.out] at m5
          have HM6 := Tre.hid m5
          clear m5
          go_wp2_with fail
          go_roundw
          case rel => exact ⟨i + 1, by omega, by go_num, HM6.out⟩
          case measure => simp [intOf]; omega
        · have et : (g.kids x).take i = g.kids x := List.take_of_length_le (by rw [HLK.out]; omega)
          have hI' := hI.out
          rw [et] at hI'
          have HM6 := Tre.hid hI'
          rw [et]
          clear et hI' hI hbo
          go_wp2_with fail
          go_ret
          refine ⟨_, rfl, ?_⟩
          rw [HDT.out]
          exact HM6.out.del 2
end Go.Proofs.Ytgngnkajjldnlaa.gr
