/- GraphFree: the walk. -/
import Derived.Test.YtgngnkajjldnlaaAlive
import Derived.Test.YtgngnkajjldnlaaNodv
import Derived.Test.YtgngnkajjldnlaaFreep
namespace Go.Proofs.Ytgngnkajjldnlaa.gr
open Go.RowKit Go.Shelf Go.Maps Go.Tre lex
def varV : NodeV := ⟨varN, .slice none 0 0, .slice none 0 0⟩
def starV (a b : Int) (k : Nat) : NodeV := ⟨starN a b, .slice (some ⟨k, 0, none⟩) 2 2, .slice none 0 0⟩
theorem varV_val (w : World) : NodeVal w varV := ⟨none, 0, none, 0, rfl, rfl, row_none _ _, row_none _ _, Nat.le_refl _, Nat.le_refl _⟩
theorem starV_val {w : World} {a b : Int} {k : Nat} {t : TypeId} (h : w.heap[k]? = some (.cells #[.int .i64 a, .int .i64 b] t (0, 0))) : NodeVal w (starV a b k) :=
  ⟨some ⟨k, 0, none⟩, 2, none, 0, rfl, rfl, row_lit h 1 2 rfl, row_none _ _, Nat.le_refl _, Nat.le_refl _⟩

set_option maxRecDepth 100000 in
set_option maxHeartbeats 8000000 in
theorem freeLaw (a : Option Addr) (ca : Nat) (g : Tre.Graph) (w : World) (hg : NodesAt w a g.ns) (wg : g.weight ≤ 1048576) (hm : MaxAt w) :
    Calls Try.prog 6 #[.agg #[.slice a g.ns.length ca, .int .i64 g.root]] w fun e w' => e = .returned (.bool true) ∧ Below w.heap.size w w' := by
  have M := (Mem.nil w).allocR #[.slice a g.ns.length ca, .int .i64 g.root] 24
  have HM := Tre.hid hm
  have HG := Tre.hid hg
  have HM0 := Tre.hid M
  clear hm hg M
  go_enter Try.func6, Try.ntmps6
  go_wp2_with fail
  refine (alive_any _ (HM.out.below HM0.out.below)).mono ?_
  rintro e w1 ⟨rfl, b1⟩
  have M1 := HM0.out.quiet b1
  obtain ⟨g0, g1⟩ := M1.two 0 rfl
  have HM1 := Tre.hid M1
  clear M1 b1
  go_wp2_with fail
  refine (great.great a ca g _ (by omega) (HG.out.below HM1.out.below)).mono ?_
  rintro e w2 ⟨rfl, b2⟩
  clear g0 g1
  have M2 := HM1.out.quiet b2
  obtain ⟨g0, g1⟩ := M2.two 0 rfl
  have HM2 := Tre.hid M2
  clear M2 b2
  by_cases t2 : (300 : Int) < g.great
  · go_wp2_with fail
    go_ret
    exact ⟨rfl, HM2.out.below⟩
  go_wp2_with fail
  refine (check_any a ca g _ (HG.out.below HM2.out.below) (by omega) (HM.out.below HM2.out.below)).mono ?_
  rintro e w3 ⟨rfl, b3⟩
  clear g0 g1
  have M3 := HM2.out.quiet b3
  obtain ⟨g0, g1⟩ := M3.two 0 rfl
  have HM3 := Tre.hid M3
  clear M3 b3
  by_cases t3 : g.checkC ≠ 0
  · have t := not_ok t3
    go_wp2_with fail
    go_ret
    exact ⟨rfl, HM3.out.below⟩
  have cg : g.checkC = 0 := by omega
  have OG := Tre.hid (Graph.ok_of cg)
  have u3 : (g.checkC != 0) = false := by rw [cg]; rfl
  have hgl : g.ns.length ≤ 300 := by have := g.great_len; omega
  have hg1 : 0 < g.ns.length := by have := OG.out.root1; omega
  obtain ⟨b, off, rfl, _⟩ := HG.out.at_ 0 g.ns[0] (List.getElem?_eq_getElem hg1)
  obtain ⟨ds, hds, hcell, hval⟩ := nodes_vals HG.out
  have HDS := Tre.hid hds
  have HCELL := Tre.hid hcell
  have HVAL := Tre.hid hval
  have hlen : ds.length = g.ns.length := by have := congrArg List.length hds; simpa using this
  have HL := Tre.hid hlen
  obtain ⟨ii, I1, I2, I3, I4⟩ := info_parts infoN
  have J1 := Tre.hid I1
  have J2 := Tre.hid I2
  have J3 := Tre.hid I3
  have J4 := Tre.hid I4
  have MA := HM3.out.allocRow #[] 33 5 0 (by unfold maxLen; omega) rfl
  have HMA := Tre.hid MA
  obtain ⟨q0, q1⟩ := MA.two 1 rfl
  have HMB3 := Tre.hid HM3.out.below
  clear cg t3 hds hcell hval hlen I1 I2 I3 I4 MA
  go_wp2_with (first
    | (at_builtin; refine wpList_append_own_at _ rfl _ _ 22 rfl 0 33 ii _ 5 80 Try.underlying22 J1.out J2.out J3.out J4.out rfl (by omega) (.slice (some ⟨w3.heap.size, 0, none⟩) 0 0) 0 [] rfl (HMA.out.row 0 rfl) ⟨b, off, none⟩ g.ns.length ca (ds.flatMap NodeV.cells) rfl (by rw [cells_len, HL.out]) (fun j u hu => by rw [add_plain]; exact cell_below (HMA.out.below.mono (Nat.le_refl _)) (HCELL.out j u hu)) (cells_one _ (fun d hd => ⟨_, HVAL.out d hd⟩)) (by unfold maxLen; omega) (by omega) (Nat.zero_le _) ?_; intro v' w4 hown4 hgrow4 hnil4 hat4; simp only [Nat.zero_add, List.nil_append] at hown4; have M4 := HMA.out.grow 0 rfl hgrow4 hown4 hat4; obtain ⟨a4, c4, rfl, _⟩ := M4.val 0 rfl; have HM4 := Tre.hid M4; clear M4 hown4 hgrow4 hnil4 hat4)
    | (at_builtin; have M5 := (HM4.out.allocR #[.int .i64 g.ns.length, .int .i64 g.ns.length] 3).alloc (.cells #[.int .i64 1, .string ByteArray.empty, .slice none 0 0, .slice none 0 0, .bool false, .int .i64 2, .string starB, .slice (some ⟨w4.heap.size, 0, none⟩) 2 2, .slice none 0 0, .bool false] 33); refine wpList_append_own_at _ rfl _ _ 22 rfl 0 33 ii _ 5 80 Try.underlying22 J1.out J2.out J3.out J4.out rfl (by omega) (.slice a4 g.ns.length c4) g.ns.length (ds.flatMap NodeV.cells) rfl (M5.row 1 rfl) ⟨w4.heap.size + 1, 0, none⟩ 2 2 [.int .i64 1, .string ByteArray.empty, .slice none 0 0, .slice none 0 0, .bool false, .int .i64 2, .string starB, .slice (some ⟨w4.heap.size, 0, none⟩) 2 2, .slice none 0 0, .bool false] rfl rfl (World.news_of_block (cs := #[.int .i64 1, .string ByteArray.empty, .slice none 0 0, .slice none 0 0, .bool false, .int .i64 2, .string starB, .slice (some ⟨w4.heap.size, 0, none⟩) 2 2, .slice none 0 0, .bool false]) (t := 33) (fr := (0, 0)) (heap_two _ _ _)) (by simp [Value.oneCell']) (by unfold maxLen; omega) (by omega) (Nat.zero_le _) ?_; intro v' w5 hown5 hgrow5 hnil5 hat5; have M6 := M5.grow 1 rfl hgrow5 hown5 hat5; obtain ⟨a5, c5, rfl, _⟩ := M6.val 1 rfl; have HM6 := Tre.hid M6; have M7 := M6.allocR #[.slice a5 (g.ns.length + 2) c5, .int .i64 ((g.ns.length : Int) + 1)] 24; have HM7 := Tre.hid M7; have M8 := M7.allocRow #[] 33 5 0 (by unfold maxLen; omega) rfl; have HM8 := Tre.hid M8; obtain ⟨q2, q3⟩ := M8.two 4 rfl; clear M5 M6 M7 M8 hown5 hgrow5 hnil5 hat5)
    | (at_builtin; refine wpList_append_own_at _ rfl _ _ 22 rfl 0 33 ii _ 5 80 Try.underlying22 J1.out J2.out J3.out J4.out rfl (by omega) (.slice (some ⟨w5.heap.size + 1, 0, none⟩) 0 0) 0 [] rfl (HM8.out.row 0 (by rw [heapSize_alloc]; rfl)) ⟨b, off, none⟩ g.ns.length ca (ds.flatMap NodeV.cells) rfl (by rw [cells_len, HL.out]) (fun j u hu => by rw [add_plain]; exact cell_below HM8.out.below (HCELL.out j u hu)) (cells_one _ (fun d hd => ⟨_, HVAL.out d hd⟩)) (by unfold maxLen; omega) (by omega) (Nat.zero_le _) ?_; intro v' w6 hown6 hgrow6 hnil6 hat6; simp only [Nat.zero_add, List.nil_append] at hown6; have M9 := HM8.out.grow 0 (by rw [heapSize_alloc]; rfl) hgrow6 hown6 hat6; obtain ⟨a6, c6, rfl, _⟩ := M9.val 0 rfl; have HM9 := Tre.hid M9; clear M9 hown6 hgrow6 hnil6 hat6)
    | (at_builtin; have M10 := (HM9.out.allocR #[.int .i64 g.ns.length, .int .i64 ((g.ns.length : Int) + 1)] 3).alloc (.cells #[.int .i64 1, .string ByteArray.empty, .slice none 0 0, .slice none 0 0, .bool false, .int .i64 1, .string ByteArray.empty, .slice none 0 0, .slice none 0 0, .bool false, .int .i64 2, .string starB, .slice (some ⟨w6.heap.size, 0, none⟩) 2 2, .slice none 0 0, .bool false] 33); refine wpList_append_own_at _ rfl _ _ 22 rfl 0 33 ii _ 5 80 Try.underlying22 J1.out J2.out J3.out J4.out rfl (by omega) (.slice a6 g.ns.length c6) g.ns.length (ds.flatMap NodeV.cells) rfl (M10.row 1 rfl) ⟨w6.heap.size + 1, 0, none⟩ 3 3 [.int .i64 1, .string ByteArray.empty, .slice none 0 0, .slice none 0 0, .bool false, .int .i64 1, .string ByteArray.empty, .slice none 0 0, .slice none 0 0, .bool false, .int .i64 2, .string starB, .slice (some ⟨w6.heap.size, 0, none⟩) 2 2, .slice none 0 0, .bool false] rfl rfl (World.news_of_block (cs := #[.int .i64 1, .string ByteArray.empty, .slice none 0 0, .slice none 0 0, .bool false, .int .i64 1, .string ByteArray.empty, .slice none 0 0, .slice none 0 0, .bool false, .int .i64 2, .string starB, .slice (some ⟨w6.heap.size, 0, none⟩) 2 2, .slice none 0 0, .bool false]) (t := 33) (fr := (0, 0)) (heap_two _ _ _)) (by simp [Value.oneCell']) (by unfold maxLen; omega) (by omega) (Nat.zero_le _) ?_; intro v' w7 hown7 hgrow7 hnil7 hat7; have M11 := M10.grow 1 rfl hgrow7 hown7 hat7; obtain ⟨a7, c7, rfl, _⟩ := M11.val 1 rfl; have M12 := M11.allocR #[.slice a7 (g.ns.length + 3) c7, .int .i64 ((g.ns.length : Int) + 2)] 24; have HM12 := Tre.hid M12; obtain ⟨q4, q5⟩ := M12.two 3 rfl; obtain ⟨q6, q7⟩ := M12.two 0 rfl; clear M10 M11 M12 hown7 hgrow7 hnil7 hat7))
  have N1 : NodesAt (w7.alloc (.cells #[.slice a7 (g.ns.length + 3) c7, .int .i64 ((g.ns.length : Int) + 2)] 24)) a5 (oneG g).ns := by
    have e : (oneG g).ns = (ds ++ [varV, starV g.ns.length g.ns.length w4.heap.size]).map NodeV.n := by rw [List.map_append, HDS.out]; rfl
    rw [e]
    refine nodesAt_of (c := c5) ?_ (fun d hd => ?_)
    · have h := HM12.out.row 5 rfl
      show World.ownsRow _ _ _ _ _ _ _
      rw [List.flatMap_append, List.length_append, HL.out]
      exact h
    · rcases List.mem_append.1 hd with hd | hd
      · exact (HVAL.out d hd).below HM12.out.below
      · simp at hd
        rcases hd with rfl | rfl
        · exact varV_val _
        · exact starV_val (HM12.out.heap 4 rfl)
  have N2 : NodesAt (w7.alloc (.cells #[.slice a7 (g.ns.length + 3) c7, .int .i64 ((g.ns.length : Int) + 2)] 24)) a7 (twoG g).ns := by
    have e : (twoG g).ns = (ds ++ [varV, varV, starV g.ns.length (g.ns.length + 1) w6.heap.size]).map NodeV.n := by rw [List.map_append, HDS.out]; rfl
    rw [e]
    refine nodesAt_of (c := c7) ?_ (fun d hd => ?_)
    · have h := HM12.out.row 2 rfl
      show World.ownsRow _ _ _ _ _ _ _
      rw [List.flatMap_append, List.length_append, HL.out]
      exact h
    · rcases List.mem_append.1 hd with hd | hd
      · exact (HVAL.out d hd).below HM12.out.below
      · simp at hd
        rcases hd with rfl | rfl
        · exact varV_val _
        · exact starV_val (HM12.out.heap 1 rfl)
  have W1 : (oneG g).weight ≤ 2097152 := by rw [oneG_weight]; omega
  have W2 : (twoG g).weight ≤ 2097152 := by rw [twoG_weight]; omega
  have HN1 := Tre.hid N1
  have HN2 := Tre.hid N2
  have C := same_any a5 a7 c5 c7 (oneG g) (twoG g) _ N1 N2 W1 W2 (HM.out.below HM12.out.below)
  rw [oneG_len, twoG_len, show (oneG g).root = (g.ns.length : Int) + 1 from rfl, show (twoG g).root = (g.ns.length : Int) + 2 from rfl, not_one_two] at C
  have HC := Tre.hid C
  clear N1 N2 C
  refine HC.out.mono ?_
  rintro e w8 ⟨rfl, b8⟩
  have M13 := HM12.out.quiet b8
  obtain ⟨p0, p1⟩ := M13.two 3 rfl
  obtain ⟨p2, p3⟩ := M13.two 0 rfl
  have HM13 := Tre.hid M13
  have HB8 := Tre.hid b8
  have C := freeF_any a5 c5 (oneG g) w8 (HN1.out.below b8) W1 (HM.out.below M13.below)
  rw [oneG_len, show (oneG g).root = (g.ns.length : Int) + 1 from rfl, oneG_free OG.out (by omega)] at C
  have HC1 := Tre.hid C
  clear M13 b8 q4 q5 q6 q7 C
  go_wp2_with fail
  refine HC1.out.mono ?_
  rintro e w9 ⟨v9, rfl, m9⟩
  have M14 := HM13.out.call m9
  obtain ⟨a9, c9, rfl, _⟩ := M14.val 0 rfl
  obtain ⟨r2, r3⟩ := M14.two 1 rfl
  have HM14 := Tre.hid M14
  have C := freeF_any a7 c7 (twoG g) w9 ((HN2.out.below HB8.out).below m9.below) W2 (HM.out.below M14.below)
  rw [twoG_len, show (twoG g).root = (g.ns.length : Int) + 2 from rfl, twoG_free OG.out (by omega)] at C
  have HC2 := Tre.hid C
  clear M14 m9 p0 p1 p2 p3 C
  go_wp2_with fail
  refine HC2.out.mono ?_
  rintro e w10 ⟨v10, rfl, m10⟩
  have M15 := HM14.out.call m10
  obtain ⟨a10, c10, rfl, _⟩ := M15.val 0 rfl
  have HM15 := Tre.hid M15
  clear M15 m10
  go_wp2_with fail
  go_ret
  exact ⟨rfl, HM15.out.below⟩
end Go.Proofs.Ytgngnkajjldnlaa.gr
