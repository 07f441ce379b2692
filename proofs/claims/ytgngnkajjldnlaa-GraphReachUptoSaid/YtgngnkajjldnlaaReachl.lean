/- GraphReach: the walk. -/
import Derived.Test.YtgngnkajjldnlaaAlive
import Derived.Test.YtgngnkajjldnlaaPl
import Derived.Test.YtgngnkajjldnlaaRegl
import Derived.Deep.QuietTactic
import Derived.BigQuiet
namespace Go.Proofs.Ytgngnkajjldnlaa.gr
open Go.RowKit Go.Shelf Go.Maps Go.Tre lex
theorem gtr_no {a : Nat} {c : Int} (h : ¬ c < (a : Int)) : ¬ c < (a : Int) := h

set_option maxRecDepth 100000 in
set_option maxHeartbeats 8000000 in
theorem reachLaw (a b c : Option Addr) (ca cb cc : Nat) (g h k : Tre.Graph) (w : World) (hg : NodesAt w a g.ns) (hh : NodesAt w b h.ns) (hk : NodesAt w c k.ns) (wg : g.weight ≤ 2097152) (wh : h.weight ≤ 2097152) (wk : k.weight ≤ 2097152) (hm : MaxAt w) :
    Calls Try.prog 5 #[.agg #[.slice a g.ns.length ca, .int .i64 g.root], .agg #[.slice b h.ns.length cb, .int .i64 h.root], .agg #[.slice c k.ns.length cc, .int .i64 k.root]] w fun e w' => e = .returned (.bool true) ∧ Below w.heap.size w w' := by
  have M := (((Mem.nil w).allocR #[.slice a g.ns.length ca, .int .i64 g.root] 24).allocR #[.slice b h.ns.length cb, .int .i64 h.root] 24).allocR #[.slice c k.ns.length cc, .int .i64 k.root] 24
  simp only [heapSize_alloc] at M
  have HM := Tre.hid hm
  have HG := Tre.hid hg
  have HH := Tre.hid hh
  have HK := Tre.hid hk
  have HM0 := Tre.hid M
  clear hm hg hh hk M
  go_enter Try.func5, Try.ntmps5
  go_wp2_with fail
  refine (alive_any _ (HM.out.below HM0.out.below)).mono ?_
  rintro e w1 ⟨rfl, b1⟩
  have M1 := HM0.out.quiet b1
  obtain ⟨g0, g1⟩ := M1.two 2 rfl
  obtain ⟨h0, h1⟩ := M1.two 1 rfl
  obtain ⟨k0, k1⟩ := M1.two 0 rfl
  have HM1 := Tre.hid M1
  clear M1 b1
  go_wp2_with fail
  refine (great.great a ca g _ (by omega) (HG.out.below HM1.out.below)).mono ?_
  rintro e w2 ⟨rfl, b2⟩
  clear g0 g1 h0 h1 k0 k1
  have M2 := HM1.out.quiet b2
  obtain ⟨g0, g1⟩ := M2.two 2 rfl
  obtain ⟨h0, h1⟩ := M2.two 1 rfl
  obtain ⟨k0, k1⟩ := M2.two 0 rfl
  have HM2 := Tre.hid M2
  clear M2 b2
  by_cases t2 : (200 : Int) < g.great
  · have t := t2
    go_wp2_with fail
    go_ret
    exact ⟨rfl, HM2.out.below⟩
  go_wp2_with fail
  refine (great.great b cb h _ (by omega) (HH.out.below HM2.out.below)).mono ?_
  rintro e w3 ⟨rfl, b3⟩
  clear g0 g1 h0 h1 k0 k1
  have M3 := HM2.out.quiet b3
  obtain ⟨g0, g1⟩ := M3.two 2 rfl
  obtain ⟨h0, h1⟩ := M3.two 1 rfl
  obtain ⟨k0, k1⟩ := M3.two 0 rfl
  have HM3 := Tre.hid M3
  clear M3 b3
  by_cases t3 : (200 : Int) < h.great
  · have t := t3
    go_wp2_with fail
    go_ret
    exact ⟨rfl, HM3.out.below⟩
  go_wp2_with fail
  refine (great.great c cc k _ (by omega) (HK.out.below HM3.out.below)).mono ?_
  rintro e w4 ⟨rfl, b4⟩
  clear g0 g1 h0 h1 k0 k1
  have M4 := HM3.out.quiet b4
  obtain ⟨g0, g1⟩ := M4.two 2 rfl
  obtain ⟨h0, h1⟩ := M4.two 1 rfl
  obtain ⟨k0, k1⟩ := M4.two 0 rfl
  have HM4 := Tre.hid M4
  clear M4 b4
  by_cases t4 : (200 : Int) < k.great
  · have t := t4
    go_wp2_with fail
    go_ret
    exact ⟨rfl, HM4.out.below⟩
  go_wp2_with fail
  refine (check_any a ca g _ (HG.out.below HM4.out.below) (by omega) (HM.out.below HM4.out.below)).mono ?_
  rintro e w5 ⟨rfl, b5⟩
  clear g0 g1 h0 h1 k0 k1
  have M5 := HM4.out.quiet b5
  obtain ⟨g0, g1⟩ := M5.two 2 rfl
  obtain ⟨h0, h1⟩ := M5.two 1 rfl
  obtain ⟨k0, k1⟩ := M5.two 0 rfl
  have HM5 := Tre.hid M5
  clear M5 b5
  by_cases t5 : g.checkC ≠ 0
  · have t := not_ok t5
    go_wp2_with fail
    go_ret
    exact ⟨rfl, HM5.out.below⟩
  have cg : g.checkC = 0 := by omega
  have Cg := Tre.hid cg
  have u5 : (g.checkC != 0) = false := by rw [cg]; rfl
  clear cg t5
  go_wp2_with fail
  refine (check_any b cb h _ (HH.out.below HM5.out.below) (by omega) (HM.out.below HM5.out.below)).mono ?_
  rintro e w6 ⟨rfl, b6⟩
  clear g0 g1 h0 h1 k0 k1
  have M6 := HM5.out.quiet b6
  obtain ⟨g0, g1⟩ := M6.two 2 rfl
  obtain ⟨h0, h1⟩ := M6.two 1 rfl
  obtain ⟨k0, k1⟩ := M6.two 0 rfl
  have HM6 := Tre.hid M6
  clear M6 b6
  by_cases t6 : h.checkC ≠ 0
  · have t := not_ok t6
    go_wp2_with fail
    go_ret
    exact ⟨rfl, HM6.out.below⟩
  have ch : h.checkC = 0 := by omega
  have Ch := Tre.hid ch
  have u6 : (h.checkC != 0) = false := by rw [ch]; rfl
  clear ch t6
  go_wp2_with fail
  refine (check_any c cc k _ (HK.out.below HM6.out.below) (by omega) (HM.out.below HM6.out.below)).mono ?_
  rintro e w7 ⟨rfl, b7⟩
  clear g0 g1 h0 h1 k0 k1
  have M7 := HM6.out.quiet b7
  obtain ⟨g0, g1⟩ := M7.two 2 rfl
  obtain ⟨h0, h1⟩ := M7.two 1 rfl
  obtain ⟨k0, k1⟩ := M7.two 0 rfl
  have HM7 := Tre.hid M7
  clear M7 b7
  by_cases t7 : k.checkC ≠ 0
  · have t := not_ok t7
    go_wp2_with fail
    go_ret
    exact ⟨rfl, HM7.out.below⟩
  have ck : k.checkC = 0 := by omega
  have Ck := Tre.hid ck
  have u7 : (k.checkC != 0) = false := by rw [ck]; rfl
  clear ck t7
  go_wp2_with fail
  refine (reach_any a ca g _ (HG.out.below HM7.out.below) (by omega) (HM.out.below HM7.out.below)).mono ?_
  rintro e w8 ⟨vl, rfl, m8⟩
  have M8 := HM7.out.call m8
  obtain ⟨al, cl, rfl, hcl⟩ := M8.val 0 rfl
  have hmm := @run_makeMap Try.prog
  have hln : g.reachL.length ≤ 2097152 := Nat.le_trans g.reach_len wg
  have HRL := Tre.hid g.reach_lt
  have HND := Tre.hid g.reach_nodup
  have HRK := Tre.hid (fun (a : Nat) (ha : a ∈ g.reachL) => g.reach_kids ha)
  have hhd := Tre.hid (Graph.reach_head Cg.out)
  have OG := Tre.hid (Graph.ok_of Cg.out)
  have r0 : g.root = ((g.root.toNat : Nat) : Int) := by have := OG.out.root0; omega
  have R0 := Tre.hid r0
  have hgl : g.ns.length ≤ 2097152 := Nat.le_trans (len_weight g) wg
  have M9 := M8.allocMap Try.prog 3 en (fun _ : Unit => .bool true)
  have HM9 := Tre.hid M9
  clear g0 g1 h0 h1 k0 k1 m8 M8 M9 r0
  generalize hL : g.reachL = L at *
  have HL := Tre.hid hL
  clear hL
  go_wp2_with fail
  go_loopw [50] (fun v50 wr => ∃ i N : Nat, i ≤ L.length ∧ v50 = .int .i64 i ∧
      Hid (Mem w wr [mapR Try.prog 3 en (fun _ : Unit => .bool true) w8.heap.size N (setMap L i), rowR 3 1 (.slice al L.length cl) L.length (L.map rk), cellsR (w.heap.size + 1 + 1) 24 #[.slice c k.ns.length cc, .int .i64 k.root], cellsR (w.heap.size + 1) 24 #[.slice b h.ns.length cb, .int .i64 h.root], cellsR w.heap.size 24 #[.slice a g.ns.length ca, .int .i64 g.root]]))
    (fun v50 _ => L.length - (intOf v50).toNat)
  case atStart => exact ⟨0, 0, Nat.zero_le _, rfl, by rw [setMap_zero]; exact HM9.out⟩
  case round =>
    obtain ⟨i, N, hi, rfl, hM⟩ := hrel
    by_cases hlt : i < L.length
    · obtain ⟨gl, rfl, hgl1, hgl2, hcl'⟩ := hM.out.getRow 1 rfl i (u := rk L[i]) (by rw [List.getElem?_map, List.getElem?_eq_getElem hlt]; rfl)
      have hxl : L[i] < g.ns.length := HRL.out _ (List.getElem_mem hlt)
      have HS := Tre.hid (setMap_succ hlt)
      have HN := Tre.hid (setMap_new HND.out hlt)
      generalize L[i] = x at *
      have hcl2 : wr.cell? ⟨gl, i, none⟩ = some (.int .i64 (x : Int)) := hcl'
      clear hcl'
      go_wp2_with (first
        | (refine wpList_look1_none rfl _ _ 36 rfl 4 KI injN Try.underlying36 (zb _) rfl (hM.out.map 0 rfl) x rfl (kn x (by omega)) HN.out ?_)
        | (refine wpList_store rfl _ _ _ 36 (.inl rfl) 4 KI injN Try.underlying36 rfl (hM.out.map 0 rfl) x rfl (kn x (by omega)) () rfl ?_; intro w2 hm2 hg2; have M3 := hM.out.put 0 rfl hg2 hm2; have HM3 := Tre.hid M3; clear M3 hm2 hg2))
      go_roundw
      case rel => exact ⟨i + 1, _, by omega, by go_num, by have := HM3.out; rw [HS.out] at this; exact this⟩
      case measure => simp [intOf]; omega
    · have e : i = L.length := by omega
      have hM' := hM.out
      rw [e] at hM'
      have HM10 := Tre.hid hM'
      clear hM hM' e
      go_wp2_with fail
      obtain ⟨wo, rfl⟩ : ∃ wo : World, wo = wr := ⟨_, rfl⟩
      go_loopw [62] (fun v62 wr => ∃ i : Nat, i ≤ L.length ∧ v62 = .int .i64 i ∧
          Hid (Mem w wr [mapR Try.prog 3 en (fun _ : Unit => .bool true) w8.heap.size N (setMap L L.length), rowR 3 1 (.slice al L.length cl) L.length (L.map rk), cellsR (w.heap.size + 1 + 1) 24 #[.slice c k.ns.length cc, .int .i64 k.root], cellsR (w.heap.size + 1) 24 #[.slice b h.ns.length cb, .int .i64 h.root], cellsR w.heap.size 24 #[.slice a g.ns.length ca, .int .i64 g.root]]))
        (fun v62 _ => L.length - (intOf v62).toNat)
      case atStart => exact ⟨0, Nat.zero_le _, rfl, HM10.out⟩
      case round =>
        obtain ⟨i, hi, rfl, hM⟩ := hrel
        by_cases hlt : i < L.length
        · have hmem := List.getElem_mem hlt
          obtain ⟨gl, rfl, hgl1, hgl2, hcl'⟩ := hM.out.getRow 1 rfl i (u := rk L[i]) (by rw [List.getElem?_map, List.getElem?_eq_getElem hlt]; rfl)
          have hxl : L[i] < g.ns.length := HRL.out _ hmem
          have HKK := Tre.hid (HRK.out _ hmem)
          have HAX := Tre.hid (OG.out.kids_eq hxl)
          generalize L[i] = x at *
          have hcl2 : wr.cell? ⟨gl, i, none⟩ = some (.int .i64 (x : Int)) := hcl'
          obtain ⟨b1, o1, rfl, nx⟩ := HG.out.at_ x (g.nd x) (by rw [Graph.nd_eq hxl]; exact List.getElem?_eq_getElem hxl)
          have hXw : (g.nd x).weight ≤ g.weight := by rw [Graph.nd_eq hxl]; exact node_weight (List.getElem_mem hxl)
          have hXa := args_len (g.nd x)
          generalize hX : g.nd x = X at *
          have HX := Tre.hid hX
          obtain ⟨ax, cx, lx, dx, x0, x1, x2', x3, x4, xA, xL, _, _⟩ := nx
          have x2 := cell_below hM.out.below x2'
          have c0 : wr.cell? ⟨w.heap.size, 0, none⟩ = some (.slice (some ⟨b1, o1, none⟩) g.ns.length ca) := (hM.out.two 4 rfl).1
          have XA := Tre.hid xA
          clear hX hcl' x0 x1 x2' x3 x4 xA xL hmem
          go_wp2_with fail
          obtain ⟨wp, rfl⟩ : ∃ wp : World, wp = wr := ⟨_, rfl⟩
          go_loopw [73] (fun v73 wi => ∃ j : Nat, j ≤ X.args.length ∧ v73 = .int .i64 j ∧ Hid (Mem w wi [mapR Try.prog 3 en (fun _ : Unit => .bool true) w8.heap.size N (setMap L L.length), rowR 3 1 (.slice (some ⟨gl, 0, none⟩) L.length cl) L.length (L.map rk), cellsR (w.heap.size + 1 + 1) 24 #[.slice c k.ns.length cc, .int .i64 k.root], cellsR (w.heap.size + 1) 24 #[.slice b h.ns.length cb, .int .i64 h.root], cellsR w.heap.size 24 #[.slice (some ⟨b1, o1, none⟩) g.ns.length ca, .int .i64 g.root]])) (fun v73 _ => X.args.length - (intOf v73).toNat)
          case atStart => exact ⟨0, Nat.zero_le _, rfl, hM.out⟩
          case round =>
            obtain ⟨j, hj, rfl, hI⟩ := hrel
            by_cases hjl : j < X.args.length
            · obtain ⟨b2, o2, rfl, hc2⟩ := (XA.out.below hI.out.below).at_ j (.int .i64 X.args[j]) (by rw [List.getElem?_map, List.getElem?_eq_getElem hjl]; rfl)
              have hin : X.args[j].toNat ∈ L := HKK.out _ (by unfold Graph.kids; rw [HX.out]; exact List.mem_map.2 ⟨_, List.getElem_mem hjl, rfl⟩)
              have hlt2 := HRL.out _ hin
              have hnn : (0 : Int) ≤ X.args[j] := by
                have h9 : ∀ z ∈ X.args, (0 : Int) ≤ z := by
                  rw [HAX.out]
                  intro z hz
                  obtain ⟨q, _, e⟩ := List.mem_map.1 hz
                  omega
                exact h9 _ (List.getElem_mem hjl)
              have HIM := Tre.hid (setMap_all hin)
              obtain ⟨y, hy⟩ : ∃ y : Nat, X.args[j] = (y : Int) := ⟨_, (Int.toNat_of_nonneg hnn).symm⟩
              rw [hy] at hc2 HIM hlt2
              rw [Int.toNat_natCast] at HIM hlt2
              clear hy hin hnn
              have mm := hI.out.map 0 rfl
              go_wp2_with (refine wpList_look1_some rfl _ _ 36 rfl 4 KI injN Try.underlying36 (zb _) rfl mm y rfl (kn y (by omega)) () HIM.out ?_)
              go_roundw
              case rel => exact ⟨j + 1, by omega, by go_num, hI.out⟩
              case measure => simp [intOf]; omega
            · go_wp2_with fail
              go_roundw
              case rel => exact ⟨i + 1, by omega, by go_num, hI.out⟩
              case measure => simp [intOf]; omega
        · obtain ⟨g0, g1⟩ := hM.out.two 4 rfl
          obtain ⟨h0, h1⟩ := hM.out.two 3 rfl
          obtain ⟨k0, k1⟩ := hM.out.two 2 rfl
          obtain ⟨gl, rfl, hgl1, hgl2, hcl'⟩ := hM.out.getRow 1 rfl 0 (u := rk g.root.toNat) (by rw [List.getElem?_map, hhd.out]; rfl)
          have l0 : wr.cell? ⟨gl, 0, none⟩ = some (.int .i64 g.root) := by rw [R0.out]; exact hcl'
          have lp : 0 < L.length := lt_len2 hhd.out
          clear hcl'
          have BB := Tre.hid hM.out.below
          cases hp : sameB g h with
          | false =>
            have HP := Tre.hid hp
            clear hp
            go_wp2_with fail
            refine wp_region_held_drew (S := (fun w' => Below wr.heap.size wr w' ∧ w'.cell? ⟨gl, 0, none⟩ = some (.int .i64 g.root) ∧ w'.cell? ⟨w.heap.size, 0, none⟩ = some (.slice a g.ns.length ca) ∧ w'.cell? ⟨w.heap.size, 1, none⟩ = some (.int .i64 g.root) ∧ w'.cell? ⟨w.heap.size + 1, 0, none⟩ = some (.slice b h.ns.length cb) ∧ w'.cell? ⟨w.heap.size + 1, 1, none⟩ = some (.int .i64 h.root) ∧ w'.cell? ⟨w.heap.size + 1 + 1, 0, none⟩ = some (.slice c k.ns.length cc) ∧ w'.cell? ⟨w.heap.size + 1 + 1, 1, none⟩ = some (.int .i64 k.root))) (by kernel_rfl) ?_ (fun hH0 => ?_)
            · exact ⟨(Below.refl _ _).drew, l0, g0, g1, h0, h1, k0, k1⟩
            refine hTake (i := 0) (some 83) (v := ?_) (by rfl) (by kernel_rfl) (by kernel_rfl) (by kernel_rfl) (fun _ _ _ h => h) (by rfl) ?_ hH0 ?_
            rotate_left
            · intro w hSw; (try dsimp only at hSw); simp only [List.getElem?_toArray, List.getElem?_cons_succ, List.getElem?_cons_zero, Option.map_some, Option.some.injEq]; (first | (go_simp; done) | (go_simp; with_reducible rfl))
            try simp only [Act.put, List.setIfInBounds_toArray, List.set_cons_zero, List.set_cons_succ]
            refine hTake (i := 1) (some 84) (v := ?_) (by rfl) (by kernel_rfl) (by kernel_rfl) (by kernel_rfl) (fun _ _ _ h => h) (by rfl) ?_ hH0 ?_
            rotate_left
            · intro w hSw; (try dsimp only at hSw); simp only [List.getElem?_toArray, List.getElem?_cons_succ, List.getElem?_cons_zero, Option.map_some, Option.some.injEq]; (first | (go_simp; done) | (go_simp; with_reducible rfl))
            try simp only [Act.put, List.setIfInBounds_toArray, List.set_cons_zero, List.set_cons_succ]
            refine hTake (i := 2) (some 85) (v := ?_) (by rfl) (by kernel_rfl) (by kernel_rfl) (by kernel_rfl) (fun _ _ _ h => h) (by rfl) ?_ hH0 ?_
            rotate_left
            · intro w hSw; (try dsimp only at hSw); simp only [List.getElem?_toArray, List.getElem?_cons_succ, List.getElem?_cons_zero, Option.map_some, Option.some.injEq]; (first | (go_simp; done) | (go_simp; with_reducible rfl))
            try simp only [Act.put, List.setIfInBounds_toArray, List.set_cons_zero, List.set_cons_succ]
            refine hTake (i := 3) (some 86) (v := ?_) (by rfl) (by kernel_rfl) (by kernel_rfl) (by kernel_rfl) (fun _ _ _ h => h) (by rfl) ?_ hH0 ?_
            rotate_left
            · intro w hSw; (try dsimp only at hSw); simp only [List.getElem?_toArray, List.getElem?_cons_succ, List.getElem?_cons_zero, Option.map_some, Option.some.injEq]; (first | (go_simp; done) | (go_simp; with_reducible rfl))
            try simp only [Act.put, List.setIfInBounds_toArray, List.set_cons_zero, List.set_cons_succ]
            refine hTake (i := 4) (some 87) (v := ?_) (by rfl) (by kernel_rfl) (by kernel_rfl) (by kernel_rfl) (fun _ _ _ h => h) (by rfl) ?_ hH0 ?_
            rotate_left
            · intro w hSw; (try dsimp only at hSw); simp only [List.getElem?_toArray, List.getElem?_cons_succ, List.getElem?_cons_zero, Option.map_some, Option.some.injEq]; (first | (go_simp; done) | (go_simp; with_reducible rfl))
            try simp only [Act.put, List.setIfInBounds_toArray, List.set_cons_zero, List.set_cons_succ]
            refine hTake (i := 5) (some 88) (v := ?_) (by rfl) (by kernel_rfl) (by kernel_rfl) (by kernel_rfl) (fun _ _ _ h => h) (by rfl) ?_ hH0 ?_
            rotate_left
            · intro w hSw; (try dsimp only at hSw); simp only [List.getElem?_toArray, List.getElem?_cons_succ, List.getElem?_cons_zero, Option.map_some, Option.some.injEq]; (first | (go_simp; done) | (go_simp; with_reducible rfl))
            try simp only [Act.put, List.setIfInBounds_toArray, List.set_cons_zero, List.set_cons_succ]
            refine hTake (i := 6) (some 89) (v := ?_) (by rfl) (by kernel_rfl) (by kernel_rfl) (by kernel_rfl) (fun _ _ _ h => h) (by rfl) ?_ hH0 ?_
            rotate_left
            · intro w hSw; (try dsimp only at hSw); simp only [List.getElem?_toArray, List.getElem?_cons_succ, List.getElem?_cons_zero, Option.map_some, Option.some.injEq]; (first | (go_simp; done) | (go_simp; with_reducible rfl))
            try simp only [Act.put, List.setIfInBounds_toArray, List.set_cons_zero, List.set_cons_succ]
            refine hTake (i := 7) (some 90) (v := ?_) (by rfl) (by kernel_rfl) (by kernel_rfl) (by kernel_rfl) (fun _ _ _ h => h) (by rfl) ?_ hH0 ?_
            rotate_left
            · intro w hSw; (try dsimp only at hSw); simp only [List.getElem?_toArray, List.getElem?_cons_succ, List.getElem?_cons_zero, Option.map_some, Option.some.injEq]; (first | (go_simp; done) | (go_simp; with_reducible rfl))
            try simp only [Act.put, List.setIfInBounds_toArray, List.set_cons_zero, List.set_cons_succ]
            refine hTake (i := 8) (some 91) (v := ?_) (by rfl) (by kernel_rfl) (by kernel_rfl) (by kernel_rfl) (fun _ _ _ h => h) (by rfl) ?_ hH0 ?_
            rotate_left
            · intro w hSw; (try dsimp only at hSw); simp only [List.getElem?_toArray, List.getElem?_cons_succ, List.getElem?_cons_zero, Option.map_some, Option.some.injEq]; (first | (go_simp; done) | (go_simp; with_reducible rfl))
            try simp only [Act.put, List.setIfInBounds_toArray, List.set_cons_zero, List.set_cons_succ]
            refine hOne 9 (by kernel_rfl) (fun K hK => ?_)
            go_simp
            refine (same_any a b ca cb g h _ (HG.out.below (BB.out.trans (hH0.1.mono BB.out.size))) (HH.out.below (BB.out.trans (hH0.1.mono BB.out.size))) (by omega) (by omega) (HM.out.below (BB.out.trans (hH0.1.mono BB.out.size)))).mono ?_
            rintro e w9 ⟨rfl, c9⟩
            rw [HP.out]
            (try dsimp only)
            refine hK.out _ _ ?_ (fun hH1 => ?_)
            · exact ⟨hH0.1.trans (c9.mono hH0.1.size), cell_below c9 hH0.2.1, cell_below c9 hH0.2.2.1, cell_below c9 hH0.2.2.2.1, cell_below c9 hH0.2.2.2.2.1, cell_below c9 hH0.2.2.2.2.2.1, cell_below c9 hH0.2.2.2.2.2.2.1, cell_below c9 hH0.2.2.2.2.2.2.2⟩
            clear hK K hH0
            try simp only [Act.put, List.setIfInBounds_toArray, List.set_cons_zero, List.set_cons_succ]
            refine hTake (i := 10) (some 93) (v := ?_) (by rfl) (by kernel_rfl) (by kernel_rfl) (by kernel_rfl) (fun _ _ _ h => h) (by rfl) ?_ hH1 ?_
            rotate_left
            · intro w hSw; (try dsimp only at hSw); simp only [List.getElem?_toArray, List.getElem?_cons_succ, List.getElem?_cons_zero, Option.map_some, Option.some.injEq]; (first | (go_simp; done) | (go_simp; with_reducible rfl))
            try simp only [Act.put, List.setIfInBounds_toArray, List.set_cons_zero, List.set_cons_succ]
            refine hTake (i := 11) (some 94) (v := ?_) (by rfl) (by kernel_rfl) (by kernel_rfl) (by kernel_rfl) (fun _ _ _ h => h) (by rfl) ?_ hH1 ?_
            rotate_left
            · intro w hSw; (try dsimp only at hSw); simp only [List.getElem?_toArray, List.getElem?_cons_succ, List.getElem?_cons_zero, Option.map_some, Option.some.injEq]; (first | (go_simp; done) | (go_simp; with_reducible rfl))
            try simp only [Act.put, List.setIfInBounds_toArray, List.set_cons_zero, List.set_cons_succ]
            refine hTakeNo (i := 12) (some 95) (by rfl) (by kernel_rfl) (by kernel_rfl) (by kernel_rfl) (fun _ _ _ h => h) (by rfl) hH1 ?_
            try simp only [Act.put, List.setIfInBounds_toArray, List.set_cons_zero, List.set_cons_succ]
            refine hTakeNo (i := 13) (some 96) (by rfl) (by kernel_rfl) (by kernel_rfl) (by kernel_rfl) (fun _ _ _ h => h) (by rfl) hH1 ?_
            try simp only [Act.put, List.setIfInBounds_toArray, List.set_cons_zero, List.set_cons_succ]
            refine hTakeNo (i := 14) (some 97) (by rfl) (by kernel_rfl) (by kernel_rfl) (by kernel_rfl) (fun _ _ _ h => h) (by rfl) hH1 ?_
            try simp only [Act.put, List.setIfInBounds_toArray, List.set_cons_zero, List.set_cons_succ]
            refine hTakeNo (i := 15) (some 98) (by rfl) (by kernel_rfl) (by kernel_rfl) (by kernel_rfl) (fun _ _ _ h => h) (by rfl) hH1 ?_
            try simp only [Act.put, List.setIfInBounds_toArray, List.set_cons_zero, List.set_cons_succ]
            refine hTake (i := 16) (some 99) (v := ?_) (by rfl) (by kernel_rfl) (by kernel_rfl) (by kernel_rfl) (fun _ _ _ h => h) (by rfl) ?_ hH1 ?_
            rotate_left
            · intro w hSw; (try dsimp only at hSw); simp only [List.getElem?_toArray, List.getElem?_cons_succ, List.getElem?_cons_zero, Option.map_some, Option.some.injEq]; (first | (go_simp; done) | (go_simp; with_reducible rfl))
            try simp only [Act.put, List.setIfInBounds_toArray, List.set_cons_zero, List.set_cons_succ]
            refine hTake (i := 17) (some 100) (v := ?_) (by rfl) (by kernel_rfl) (by kernel_rfl) (by kernel_rfl) (fun _ _ _ h => h) (by rfl) ?_ hH1 ?_
            rotate_left
            · intro w hSw; (try dsimp only at hSw); simp only [List.getElem?_toArray, List.getElem?_cons_succ, List.getElem?_cons_zero, Option.map_some, Option.some.injEq]; (first | (go_simp; done) | (go_simp; with_reducible rfl))
            try simp only [Act.put, List.setIfInBounds_toArray, List.set_cons_zero, List.set_cons_succ]
            refine hTakeNo (i := 18) (some 101) (by rfl) (by kernel_rfl) (by kernel_rfl) (by kernel_rfl) (fun _ _ _ h => h) (by rfl) hH1 ?_
            try simp only [Act.put, List.setIfInBounds_toArray, List.set_cons_zero, List.set_cons_succ]
            refine hTakeNo (i := 19) (some 102) (by rfl) (by kernel_rfl) (by kernel_rfl) (by kernel_rfl) (fun _ _ _ h => h) (by rfl) hH1 ?_
            try simp only [Act.put, List.setIfInBounds_toArray, List.set_cons_zero, List.set_cons_succ]
            refine hTakeNo (i := 20) (some 103) (by rfl) (by kernel_rfl) (by kernel_rfl) (by kernel_rfl) (fun _ _ _ h => h) (by rfl) hH1 ?_
            try simp only [Act.put, List.setIfInBounds_toArray, List.set_cons_zero, List.set_cons_succ]
            refine hTake (i := 21) (some 104) (v := ?_) (by rfl) (by kernel_rfl) (by kernel_rfl) (by kernel_rfl) (fun _ _ _ h => h) (by rfl) ?_ hH1 ?_
            rotate_left
            · intro w hSw; (try dsimp only at hSw); simp only [List.getElem?_toArray, List.getElem?_cons_succ, List.getElem?_cons_zero, Option.map_some, Option.some.injEq]; (first | (go_simp; done) | (go_simp; with_reducible rfl))
            try simp only [Act.put, List.setIfInBounds_toArray, List.set_cons_zero, List.set_cons_succ]
            refine hTake (i := 22) (some 105) (v := ?_) (by rfl) (by kernel_rfl) (by kernel_rfl) (by kernel_rfl) (fun _ _ _ h => h) (by rfl) ?_ hH1 ?_
            rotate_left
            · intro w hSw; (try dsimp only at hSw); simp only [List.getElem?_toArray, List.getElem?_cons_succ, List.getElem?_cons_zero, Option.map_some, Option.some.injEq]; (first | (go_simp; done) | (go_simp; with_reducible rfl))
            try simp only [Act.put, List.setIfInBounds_toArray, List.set_cons_zero, List.set_cons_succ]
            refine hTake (i := 23) (some 6) (v := ?_) (by rfl) (by kernel_rfl) (by kernel_rfl) (by kernel_rfl) (fun _ _ _ h => h) (by rfl) ?_ hH1 ?_
            rotate_left
            · intro w hSw; (try dsimp only at hSw); simp only [List.getElem?_toArray, List.getElem?_cons_succ, List.getElem?_cons_zero, Option.map_some, Option.some.injEq]; (first | (go_simp; done) | (go_simp; with_reducible rfl))
            try simp only [Act.put, List.setIfInBounds_toArray, List.set_cons_zero, List.set_cons_succ]
            refine wpAnyH_done (by kernel_rfl) ?_ _
            have HB2 := Tre.hid hH1.1
            clear hH1
            go_wp2_with fail
            go_ret
            exact ⟨rfl, BB.out.trans (HB2.out.mono BB.out.size)⟩
          | true =>
            have HP := Tre.hid hp
            clear hp
            cases hq : sameB h k with
            | false =>
              have HQ := Tre.hid hq
              clear hq
              go_wp2_with fail
              refine wp_region_held_drew (S := (fun w' => Below wr.heap.size wr w' ∧ w'.cell? ⟨gl, 0, none⟩ = some (.int .i64 g.root) ∧ w'.cell? ⟨w.heap.size, 0, none⟩ = some (.slice a g.ns.length ca) ∧ w'.cell? ⟨w.heap.size, 1, none⟩ = some (.int .i64 g.root) ∧ w'.cell? ⟨w.heap.size + 1, 0, none⟩ = some (.slice b h.ns.length cb) ∧ w'.cell? ⟨w.heap.size + 1, 1, none⟩ = some (.int .i64 h.root) ∧ w'.cell? ⟨w.heap.size + 1 + 1, 0, none⟩ = some (.slice c k.ns.length cc) ∧ w'.cell? ⟨w.heap.size + 1 + 1, 1, none⟩ = some (.int .i64 k.root))) (by kernel_rfl) ?_ (fun hH0 => ?_)
              · exact ⟨(Below.refl _ _).drew, l0, g0, g1, h0, h1, k0, k1⟩
              refine hTake (i := 0) (some 83) (v := ?_) (by rfl) (by kernel_rfl) (by kernel_rfl) (by kernel_rfl) (fun _ _ _ h => h) (by rfl) ?_ hH0 ?_
              rotate_left
              · intro w hSw; (try dsimp only at hSw); simp only [List.getElem?_toArray, List.getElem?_cons_succ, List.getElem?_cons_zero, Option.map_some, Option.some.injEq]; (first | (go_simp; done) | (go_simp; with_reducible rfl))
              try simp only [Act.put, List.setIfInBounds_toArray, List.set_cons_zero, List.set_cons_succ]
              refine hTake (i := 1) (some 84) (v := ?_) (by rfl) (by kernel_rfl) (by kernel_rfl) (by kernel_rfl) (fun _ _ _ h => h) (by rfl) ?_ hH0 ?_
              rotate_left
              · intro w hSw; (try dsimp only at hSw); simp only [List.getElem?_toArray, List.getElem?_cons_succ, List.getElem?_cons_zero, Option.map_some, Option.some.injEq]; (first | (go_simp; done) | (go_simp; with_reducible rfl))
              try simp only [Act.put, List.setIfInBounds_toArray, List.set_cons_zero, List.set_cons_succ]
              refine hTake (i := 2) (some 85) (v := ?_) (by rfl) (by kernel_rfl) (by kernel_rfl) (by kernel_rfl) (fun _ _ _ h => h) (by rfl) ?_ hH0 ?_
              rotate_left
              · intro w hSw; (try dsimp only at hSw); simp only [List.getElem?_toArray, List.getElem?_cons_succ, List.getElem?_cons_zero, Option.map_some, Option.some.injEq]; (first | (go_simp; done) | (go_simp; with_reducible rfl))
              try simp only [Act.put, List.setIfInBounds_toArray, List.set_cons_zero, List.set_cons_succ]
              refine hTake (i := 3) (some 86) (v := ?_) (by rfl) (by kernel_rfl) (by kernel_rfl) (by kernel_rfl) (fun _ _ _ h => h) (by rfl) ?_ hH0 ?_
              rotate_left
              · intro w hSw; (try dsimp only at hSw); simp only [List.getElem?_toArray, List.getElem?_cons_succ, List.getElem?_cons_zero, Option.map_some, Option.some.injEq]; (first | (go_simp; done) | (go_simp; with_reducible rfl))
              try simp only [Act.put, List.setIfInBounds_toArray, List.set_cons_zero, List.set_cons_succ]
              refine hTake (i := 4) (some 87) (v := ?_) (by rfl) (by kernel_rfl) (by kernel_rfl) (by kernel_rfl) (fun _ _ _ h => h) (by rfl) ?_ hH0 ?_
              rotate_left
              · intro w hSw; (try dsimp only at hSw); simp only [List.getElem?_toArray, List.getElem?_cons_succ, List.getElem?_cons_zero, Option.map_some, Option.some.injEq]; (first | (go_simp; done) | (go_simp; with_reducible rfl))
              try simp only [Act.put, List.setIfInBounds_toArray, List.set_cons_zero, List.set_cons_succ]
              refine hTake (i := 5) (some 88) (v := ?_) (by rfl) (by kernel_rfl) (by kernel_rfl) (by kernel_rfl) (fun _ _ _ h => h) (by rfl) ?_ hH0 ?_
              rotate_left
              · intro w hSw; (try dsimp only at hSw); simp only [List.getElem?_toArray, List.getElem?_cons_succ, List.getElem?_cons_zero, Option.map_some, Option.some.injEq]; (first | (go_simp; done) | (go_simp; with_reducible rfl))
              try simp only [Act.put, List.setIfInBounds_toArray, List.set_cons_zero, List.set_cons_succ]
              refine hTake (i := 6) (some 89) (v := ?_) (by rfl) (by kernel_rfl) (by kernel_rfl) (by kernel_rfl) (fun _ _ _ h => h) (by rfl) ?_ hH0 ?_
              rotate_left
              · intro w hSw; (try dsimp only at hSw); simp only [List.getElem?_toArray, List.getElem?_cons_succ, List.getElem?_cons_zero, Option.map_some, Option.some.injEq]; (first | (go_simp; done) | (go_simp; with_reducible rfl))
              try simp only [Act.put, List.setIfInBounds_toArray, List.set_cons_zero, List.set_cons_succ]
              refine hTake (i := 7) (some 90) (v := ?_) (by rfl) (by kernel_rfl) (by kernel_rfl) (by kernel_rfl) (fun _ _ _ h => h) (by rfl) ?_ hH0 ?_
              rotate_left
              · intro w hSw; (try dsimp only at hSw); simp only [List.getElem?_toArray, List.getElem?_cons_succ, List.getElem?_cons_zero, Option.map_some, Option.some.injEq]; (first | (go_simp; done) | (go_simp; with_reducible rfl))
              try simp only [Act.put, List.setIfInBounds_toArray, List.set_cons_zero, List.set_cons_succ]
              refine hTake (i := 8) (some 91) (v := ?_) (by rfl) (by kernel_rfl) (by kernel_rfl) (by kernel_rfl) (fun _ _ _ h => h) (by rfl) ?_ hH0 ?_
              rotate_left
              · intro w hSw; (try dsimp only at hSw); simp only [List.getElem?_toArray, List.getElem?_cons_succ, List.getElem?_cons_zero, Option.map_some, Option.some.injEq]; (first | (go_simp; done) | (go_simp; with_reducible rfl))
              try simp only [Act.put, List.setIfInBounds_toArray, List.set_cons_zero, List.set_cons_succ]
              refine hOne 9 (by kernel_rfl) (fun K hK => ?_)
              go_simp
              refine (same_any a b ca cb g h _ (HG.out.below (BB.out.trans (hH0.1.mono BB.out.size))) (HH.out.below (BB.out.trans (hH0.1.mono BB.out.size))) (by omega) (by omega) (HM.out.below (BB.out.trans (hH0.1.mono BB.out.size)))).mono ?_
              rintro e w9 ⟨rfl, c9⟩
              rw [HP.out]
              (try dsimp only)
              refine hK.out _ _ ?_ (fun hH1 => ?_)
              · exact ⟨hH0.1.trans (c9.mono hH0.1.size), cell_below c9 hH0.2.1, cell_below c9 hH0.2.2.1, cell_below c9 hH0.2.2.2.1, cell_below c9 hH0.2.2.2.2.1, cell_below c9 hH0.2.2.2.2.2.1, cell_below c9 hH0.2.2.2.2.2.2.1, cell_below c9 hH0.2.2.2.2.2.2.2⟩
              clear hK K hH0
              try simp only [Act.put, List.setIfInBounds_toArray, List.set_cons_zero, List.set_cons_succ]
              refine hTake (i := 10) (some 93) (v := ?_) (by rfl) (by kernel_rfl) (by kernel_rfl) (by kernel_rfl) (fun _ _ _ h => h) (by rfl) ?_ hH1 ?_
              rotate_left
              · intro w hSw; (try dsimp only at hSw); simp only [List.getElem?_toArray, List.getElem?_cons_succ, List.getElem?_cons_zero, Option.map_some, Option.some.injEq]; (first | (go_simp; done) | (go_simp; with_reducible rfl))
              try simp only [Act.put, List.setIfInBounds_toArray, List.set_cons_zero, List.set_cons_succ]
              refine hTake (i := 11) (some 94) (v := ?_) (by rfl) (by kernel_rfl) (by kernel_rfl) (by kernel_rfl) (fun _ _ _ h => h) (by rfl) ?_ hH1 ?_
              rotate_left
              · intro w hSw; (try dsimp only at hSw); simp only [List.getElem?_toArray, List.getElem?_cons_succ, List.getElem?_cons_zero, Option.map_some, Option.some.injEq]; (first | (go_simp; done) | (go_simp; with_reducible rfl))
              try simp only [Act.put, List.setIfInBounds_toArray, List.set_cons_zero, List.set_cons_succ]
              refine hTake (i := 12) (some 95) (v := ?_) (by rfl) (by kernel_rfl) (by kernel_rfl) (by kernel_rfl) (fun _ _ _ h => h) (by rfl) ?_ hH1 ?_
              rotate_left
              · intro w hSw; (try dsimp only at hSw); simp only [List.getElem?_toArray, List.getElem?_cons_succ, List.getElem?_cons_zero, Option.map_some, Option.some.injEq]; (first | (go_simp; done) | (go_simp; with_reducible rfl))
              try simp only [Act.put, List.setIfInBounds_toArray, List.set_cons_zero, List.set_cons_succ]
              refine hTake (i := 13) (some 96) (v := ?_) (by rfl) (by kernel_rfl) (by kernel_rfl) (by kernel_rfl) (fun _ _ _ h => h) (by rfl) ?_ hH1 ?_
              rotate_left
              · intro w hSw; (try dsimp only at hSw); simp only [List.getElem?_toArray, List.getElem?_cons_succ, List.getElem?_cons_zero, Option.map_some, Option.some.injEq]; (first | (go_simp; done) | (go_simp; with_reducible rfl))
              try simp only [Act.put, List.setIfInBounds_toArray, List.set_cons_zero, List.set_cons_succ]
              refine hOne 14 (by kernel_rfl) (fun K hK => ?_)
              go_simp
              refine (same_any b c cb cc h k _ (HH.out.below (BB.out.trans (hH1.1.mono BB.out.size))) (HK.out.below (BB.out.trans (hH1.1.mono BB.out.size))) (by omega) (by omega) (HM.out.below (BB.out.trans (hH1.1.mono BB.out.size)))).mono ?_
              rintro e w9 ⟨rfl, c9⟩
              rw [HQ.out]
              (try dsimp only)
              refine hK.out _ _ ?_ (fun hH2 => ?_)
              · exact ⟨hH1.1.trans (c9.mono hH1.1.size), cell_below c9 hH1.2.1, cell_below c9 hH1.2.2.1, cell_below c9 hH1.2.2.2.1, cell_below c9 hH1.2.2.2.2.1, cell_below c9 hH1.2.2.2.2.2.1, cell_below c9 hH1.2.2.2.2.2.2.1, cell_below c9 hH1.2.2.2.2.2.2.2⟩
              clear hK K hH1
              try simp only [Act.put, List.setIfInBounds_toArray, List.set_cons_zero, List.set_cons_succ]
              refine hTake (i := 15) (some 98) (v := ?_) (by rfl) (by kernel_rfl) (by kernel_rfl) (by kernel_rfl) (fun _ _ _ h => h) (by rfl) ?_ hH2 ?_
              rotate_left
              · intro w hSw; (try dsimp only at hSw); simp only [List.getElem?_toArray, List.getElem?_cons_succ, List.getElem?_cons_zero, Option.map_some, Option.some.injEq]; (first | (go_simp; done) | (go_simp; with_reducible rfl))
              try simp only [Act.put, List.setIfInBounds_toArray, List.set_cons_zero, List.set_cons_succ]
              refine hTake (i := 16) (some 99) (v := ?_) (by rfl) (by kernel_rfl) (by kernel_rfl) (by kernel_rfl) (fun _ _ _ h => h) (by rfl) ?_ hH2 ?_
              rotate_left
              · intro w hSw; (try dsimp only at hSw); simp only [List.getElem?_toArray, List.getElem?_cons_succ, List.getElem?_cons_zero, Option.map_some, Option.some.injEq]; (first | (go_simp; done) | (go_simp; with_reducible rfl))
              try simp only [Act.put, List.setIfInBounds_toArray, List.set_cons_zero, List.set_cons_succ]
              refine hTake (i := 17) (some 100) (v := ?_) (by rfl) (by kernel_rfl) (by kernel_rfl) (by kernel_rfl) (fun _ _ _ h => h) (by rfl) ?_ hH2 ?_
              rotate_left
              · intro w hSw; (try dsimp only at hSw); simp only [List.getElem?_toArray, List.getElem?_cons_succ, List.getElem?_cons_zero, Option.map_some, Option.some.injEq]; (first | (go_simp; done) | (go_simp; with_reducible rfl))
              try simp only [Act.put, List.setIfInBounds_toArray, List.set_cons_zero, List.set_cons_succ]
              refine hTakeNo (i := 18) (some 101) (by rfl) (by kernel_rfl) (by kernel_rfl) (by kernel_rfl) (fun _ _ _ h => h) (by rfl) hH2 ?_
              try simp only [Act.put, List.setIfInBounds_toArray, List.set_cons_zero, List.set_cons_succ]
              refine hTakeNo (i := 19) (some 102) (by rfl) (by kernel_rfl) (by kernel_rfl) (by kernel_rfl) (fun _ _ _ h => h) (by rfl) hH2 ?_
              try simp only [Act.put, List.setIfInBounds_toArray, List.set_cons_zero, List.set_cons_succ]
              refine hTakeNo (i := 20) (some 103) (by rfl) (by kernel_rfl) (by kernel_rfl) (by kernel_rfl) (fun _ _ _ h => h) (by rfl) hH2 ?_
              try simp only [Act.put, List.setIfInBounds_toArray, List.set_cons_zero, List.set_cons_succ]
              refine hTake (i := 21) (some 104) (v := ?_) (by rfl) (by kernel_rfl) (by kernel_rfl) (by kernel_rfl) (fun _ _ _ h => h) (by rfl) ?_ hH2 ?_
              rotate_left
              · intro w hSw; (try dsimp only at hSw); simp only [List.getElem?_toArray, List.getElem?_cons_succ, List.getElem?_cons_zero, Option.map_some, Option.some.injEq]; (first | (go_simp; done) | (go_simp; with_reducible rfl))
              try simp only [Act.put, List.setIfInBounds_toArray, List.set_cons_zero, List.set_cons_succ]
              refine hTake (i := 22) (some 105) (v := ?_) (by rfl) (by kernel_rfl) (by kernel_rfl) (by kernel_rfl) (fun _ _ _ h => h) (by rfl) ?_ hH2 ?_
              rotate_left
              · intro w hSw; (try dsimp only at hSw); simp only [List.getElem?_toArray, List.getElem?_cons_succ, List.getElem?_cons_zero, Option.map_some, Option.some.injEq]; (first | (go_simp; done) | (go_simp; with_reducible rfl))
              try simp only [Act.put, List.setIfInBounds_toArray, List.set_cons_zero, List.set_cons_succ]
              refine hTake (i := 23) (some 6) (v := ?_) (by rfl) (by kernel_rfl) (by kernel_rfl) (by kernel_rfl) (fun _ _ _ h => h) (by rfl) ?_ hH2 ?_
              rotate_left
              · intro w hSw; (try dsimp only at hSw); simp only [List.getElem?_toArray, List.getElem?_cons_succ, List.getElem?_cons_zero, Option.map_some, Option.some.injEq]; (first | (go_simp; done) | (go_simp; with_reducible rfl))
              try simp only [Act.put, List.setIfInBounds_toArray, List.set_cons_zero, List.set_cons_succ]
              refine wpAnyH_done (by kernel_rfl) ?_ _
              have HB2 := Tre.hid hH2.1
              clear hH2
              go_wp2_with fail
              go_ret
              exact ⟨rfl, BB.out.trans (HB2.out.mono BB.out.size)⟩
            | true =>
              have HQ := Tre.hid hq
              clear hq
              have HR : Hid (sameB g k = true) := sameB_iff.2 ((sameB_iff.1 HP.out).trans (sameB_iff.1 HQ.out))
              go_wp2_with fail
              refine wp_region_held_drew (S := (fun w' => Below wr.heap.size wr w' ∧ w'.cell? ⟨gl, 0, none⟩ = some (.int .i64 g.root) ∧ w'.cell? ⟨w.heap.size, 0, none⟩ = some (.slice a g.ns.length ca) ∧ w'.cell? ⟨w.heap.size, 1, none⟩ = some (.int .i64 g.root) ∧ w'.cell? ⟨w.heap.size + 1, 0, none⟩ = some (.slice b h.ns.length cb) ∧ w'.cell? ⟨w.heap.size + 1, 1, none⟩ = some (.int .i64 h.root) ∧ w'.cell? ⟨w.heap.size + 1 + 1, 0, none⟩ = some (.slice c k.ns.length cc) ∧ w'.cell? ⟨w.heap.size + 1 + 1, 1, none⟩ = some (.int .i64 k.root))) (by kernel_rfl) ?_ (fun hH0 => ?_)
              · exact ⟨(Below.refl _ _).drew, l0, g0, g1, h0, h1, k0, k1⟩
              refine hTake (i := 0) (some 83) (v := ?_) (by rfl) (by kernel_rfl) (by kernel_rfl) (by kernel_rfl) (fun _ _ _ h => h) (by rfl) ?_ hH0 ?_
              rotate_left
              · intro w hSw; (try dsimp only at hSw); simp only [List.getElem?_toArray, List.getElem?_cons_succ, List.getElem?_cons_zero, Option.map_some, Option.some.injEq]; (first | (go_simp; done) | (go_simp; with_reducible rfl))
              try simp only [Act.put, List.setIfInBounds_toArray, List.set_cons_zero, List.set_cons_succ]
              refine hTake (i := 1) (some 84) (v := ?_) (by rfl) (by kernel_rfl) (by kernel_rfl) (by kernel_rfl) (fun _ _ _ h => h) (by rfl) ?_ hH0 ?_
              rotate_left
              · intro w hSw; (try dsimp only at hSw); simp only [List.getElem?_toArray, List.getElem?_cons_succ, List.getElem?_cons_zero, Option.map_some, Option.some.injEq]; (first | (go_simp; done) | (go_simp; with_reducible rfl))
              try simp only [Act.put, List.setIfInBounds_toArray, List.set_cons_zero, List.set_cons_succ]
              refine hTake (i := 2) (some 85) (v := ?_) (by rfl) (by kernel_rfl) (by kernel_rfl) (by kernel_rfl) (fun _ _ _ h => h) (by rfl) ?_ hH0 ?_
              rotate_left
              · intro w hSw; (try dsimp only at hSw); simp only [List.getElem?_toArray, List.getElem?_cons_succ, List.getElem?_cons_zero, Option.map_some, Option.some.injEq]; (first | (go_simp; done) | (go_simp; with_reducible rfl))
              try simp only [Act.put, List.setIfInBounds_toArray, List.set_cons_zero, List.set_cons_succ]
              refine hTake (i := 3) (some 86) (v := ?_) (by rfl) (by kernel_rfl) (by kernel_rfl) (by kernel_rfl) (fun _ _ _ h => h) (by rfl) ?_ hH0 ?_
              rotate_left
              · intro w hSw; (try dsimp only at hSw); simp only [List.getElem?_toArray, List.getElem?_cons_succ, List.getElem?_cons_zero, Option.map_some, Option.some.injEq]; (first | (go_simp; done) | (go_simp; with_reducible rfl))
              try simp only [Act.put, List.setIfInBounds_toArray, List.set_cons_zero, List.set_cons_succ]
              refine hTake (i := 4) (some 87) (v := ?_) (by rfl) (by kernel_rfl) (by kernel_rfl) (by kernel_rfl) (fun _ _ _ h => h) (by rfl) ?_ hH0 ?_
              rotate_left
              · intro w hSw; (try dsimp only at hSw); simp only [List.getElem?_toArray, List.getElem?_cons_succ, List.getElem?_cons_zero, Option.map_some, Option.some.injEq]; (first | (go_simp; done) | (go_simp; with_reducible rfl))
              try simp only [Act.put, List.setIfInBounds_toArray, List.set_cons_zero, List.set_cons_succ]
              refine hTake (i := 5) (some 88) (v := ?_) (by rfl) (by kernel_rfl) (by kernel_rfl) (by kernel_rfl) (fun _ _ _ h => h) (by rfl) ?_ hH0 ?_
              rotate_left
              · intro w hSw; (try dsimp only at hSw); simp only [List.getElem?_toArray, List.getElem?_cons_succ, List.getElem?_cons_zero, Option.map_some, Option.some.injEq]; (first | (go_simp; done) | (go_simp; with_reducible rfl))
              try simp only [Act.put, List.setIfInBounds_toArray, List.set_cons_zero, List.set_cons_succ]
              refine hTake (i := 6) (some 89) (v := ?_) (by rfl) (by kernel_rfl) (by kernel_rfl) (by kernel_rfl) (fun _ _ _ h => h) (by rfl) ?_ hH0 ?_
              rotate_left
              · intro w hSw; (try dsimp only at hSw); simp only [List.getElem?_toArray, List.getElem?_cons_succ, List.getElem?_cons_zero, Option.map_some, Option.some.injEq]; (first | (go_simp; done) | (go_simp; with_reducible rfl))
              try simp only [Act.put, List.setIfInBounds_toArray, List.set_cons_zero, List.set_cons_succ]
              refine hTake (i := 7) (some 90) (v := ?_) (by rfl) (by kernel_rfl) (by kernel_rfl) (by kernel_rfl) (fun _ _ _ h => h) (by rfl) ?_ hH0 ?_
              rotate_left
              · intro w hSw; (try dsimp only at hSw); simp only [List.getElem?_toArray, List.getElem?_cons_succ, List.getElem?_cons_zero, Option.map_some, Option.some.injEq]; (first | (go_simp; done) | (go_simp; with_reducible rfl))
              try simp only [Act.put, List.setIfInBounds_toArray, List.set_cons_zero, List.set_cons_succ]
              refine hTake (i := 8) (some 91) (v := ?_) (by rfl) (by kernel_rfl) (by kernel_rfl) (by kernel_rfl) (fun _ _ _ h => h) (by rfl) ?_ hH0 ?_
              rotate_left
              · intro w hSw; (try dsimp only at hSw); simp only [List.getElem?_toArray, List.getElem?_cons_succ, List.getElem?_cons_zero, Option.map_some, Option.some.injEq]; (first | (go_simp; done) | (go_simp; with_reducible rfl))
              try simp only [Act.put, List.setIfInBounds_toArray, List.set_cons_zero, List.set_cons_succ]
              refine hOne 9 (by kernel_rfl) (fun K hK => ?_)
              go_simp
              refine (same_any a b ca cb g h _ (HG.out.below (BB.out.trans (hH0.1.mono BB.out.size))) (HH.out.below (BB.out.trans (hH0.1.mono BB.out.size))) (by omega) (by omega) (HM.out.below (BB.out.trans (hH0.1.mono BB.out.size)))).mono ?_
              rintro e w9 ⟨rfl, c9⟩
              rw [HP.out]
              (try dsimp only)
              refine hK.out _ _ ?_ (fun hH1 => ?_)
              · exact ⟨hH0.1.trans (c9.mono hH0.1.size), cell_below c9 hH0.2.1, cell_below c9 hH0.2.2.1, cell_below c9 hH0.2.2.2.1, cell_below c9 hH0.2.2.2.2.1, cell_below c9 hH0.2.2.2.2.2.1, cell_below c9 hH0.2.2.2.2.2.2.1, cell_below c9 hH0.2.2.2.2.2.2.2⟩
              clear hK K hH0
              try simp only [Act.put, List.setIfInBounds_toArray, List.set_cons_zero, List.set_cons_succ]
              refine hTake (i := 10) (some 93) (v := ?_) (by rfl) (by kernel_rfl) (by kernel_rfl) (by kernel_rfl) (fun _ _ _ h => h) (by rfl) ?_ hH1 ?_
              rotate_left
              · intro w hSw; (try dsimp only at hSw); simp only [List.getElem?_toArray, List.getElem?_cons_succ, List.getElem?_cons_zero, Option.map_some, Option.some.injEq]; (first | (go_simp; done) | (go_simp; with_reducible rfl))
              try simp only [Act.put, List.setIfInBounds_toArray, List.set_cons_zero, List.set_cons_succ]
              refine hTake (i := 11) (some 94) (v := ?_) (by rfl) (by kernel_rfl) (by kernel_rfl) (by kernel_rfl) (fun _ _ _ h => h) (by rfl) ?_ hH1 ?_
              rotate_left
              · intro w hSw; (try dsimp only at hSw); simp only [List.getElem?_toArray, List.getElem?_cons_succ, List.getElem?_cons_zero, Option.map_some, Option.some.injEq]; (first | (go_simp; done) | (go_simp; with_reducible rfl))
              try simp only [Act.put, List.setIfInBounds_toArray, List.set_cons_zero, List.set_cons_succ]
              refine hTake (i := 12) (some 95) (v := ?_) (by rfl) (by kernel_rfl) (by kernel_rfl) (by kernel_rfl) (fun _ _ _ h => h) (by rfl) ?_ hH1 ?_
              rotate_left
              · intro w hSw; (try dsimp only at hSw); simp only [List.getElem?_toArray, List.getElem?_cons_succ, List.getElem?_cons_zero, Option.map_some, Option.some.injEq]; (first | (go_simp; done) | (go_simp; with_reducible rfl))
              try simp only [Act.put, List.setIfInBounds_toArray, List.set_cons_zero, List.set_cons_succ]
              refine hTake (i := 13) (some 96) (v := ?_) (by rfl) (by kernel_rfl) (by kernel_rfl) (by kernel_rfl) (fun _ _ _ h => h) (by rfl) ?_ hH1 ?_
              rotate_left
              · intro w hSw; (try dsimp only at hSw); simp only [List.getElem?_toArray, List.getElem?_cons_succ, List.getElem?_cons_zero, Option.map_some, Option.some.injEq]; (first | (go_simp; done) | (go_simp; with_reducible rfl))
              try simp only [Act.put, List.setIfInBounds_toArray, List.set_cons_zero, List.set_cons_succ]
              refine hOne 14 (by kernel_rfl) (fun K hK => ?_)
              go_simp
              refine (same_any b c cb cc h k _ (HH.out.below (BB.out.trans (hH1.1.mono BB.out.size))) (HK.out.below (BB.out.trans (hH1.1.mono BB.out.size))) (by omega) (by omega) (HM.out.below (BB.out.trans (hH1.1.mono BB.out.size)))).mono ?_
              rintro e w9 ⟨rfl, c9⟩
              rw [HQ.out]
              (try dsimp only)
              refine hK.out _ _ ?_ (fun hH2 => ?_)
              · exact ⟨hH1.1.trans (c9.mono hH1.1.size), cell_below c9 hH1.2.1, cell_below c9 hH1.2.2.1, cell_below c9 hH1.2.2.2.1, cell_below c9 hH1.2.2.2.2.1, cell_below c9 hH1.2.2.2.2.2.1, cell_below c9 hH1.2.2.2.2.2.2.1, cell_below c9 hH1.2.2.2.2.2.2.2⟩
              clear hK K hH1
              try simp only [Act.put, List.setIfInBounds_toArray, List.set_cons_zero, List.set_cons_succ]
              refine hTake (i := 15) (some 98) (v := ?_) (by rfl) (by kernel_rfl) (by kernel_rfl) (by kernel_rfl) (fun _ _ _ h => h) (by rfl) ?_ hH2 ?_
              rotate_left
              · intro w hSw; (try dsimp only at hSw); simp only [List.getElem?_toArray, List.getElem?_cons_succ, List.getElem?_cons_zero, Option.map_some, Option.some.injEq]; (first | (go_simp; done) | (go_simp; with_reducible rfl))
              try simp only [Act.put, List.setIfInBounds_toArray, List.set_cons_zero, List.set_cons_succ]
              refine hTake (i := 16) (some 99) (v := ?_) (by rfl) (by kernel_rfl) (by kernel_rfl) (by kernel_rfl) (fun _ _ _ h => h) (by rfl) ?_ hH2 ?_
              rotate_left
              · intro w hSw; (try dsimp only at hSw); simp only [List.getElem?_toArray, List.getElem?_cons_succ, List.getElem?_cons_zero, Option.map_some, Option.some.injEq]; (first | (go_simp; done) | (go_simp; with_reducible rfl))
              try simp only [Act.put, List.setIfInBounds_toArray, List.set_cons_zero, List.set_cons_succ]
              refine hTake (i := 17) (some 100) (v := ?_) (by rfl) (by kernel_rfl) (by kernel_rfl) (by kernel_rfl) (fun _ _ _ h => h) (by rfl) ?_ hH2 ?_
              rotate_left
              · intro w hSw; (try dsimp only at hSw); simp only [List.getElem?_toArray, List.getElem?_cons_succ, List.getElem?_cons_zero, Option.map_some, Option.some.injEq]; (first | (go_simp; done) | (go_simp; with_reducible rfl))
              try simp only [Act.put, List.setIfInBounds_toArray, List.set_cons_zero, List.set_cons_succ]
              refine hTake (i := 18) (some 101) (v := ?_) (by rfl) (by kernel_rfl) (by kernel_rfl) (by kernel_rfl) (fun _ _ _ h => h) (by rfl) ?_ hH2 ?_
              rotate_left
              · intro w hSw; (try dsimp only at hSw); simp only [List.getElem?_toArray, List.getElem?_cons_succ, List.getElem?_cons_zero, Option.map_some, Option.some.injEq]; (first | (go_simp; done) | (go_simp; with_reducible rfl))
              try simp only [Act.put, List.setIfInBounds_toArray, List.set_cons_zero, List.set_cons_succ]
              refine hTake (i := 19) (some 102) (v := ?_) (by rfl) (by kernel_rfl) (by kernel_rfl) (by kernel_rfl) (fun _ _ _ h => h) (by rfl) ?_ hH2 ?_
              rotate_left
              · intro w hSw; (try dsimp only at hSw); simp only [List.getElem?_toArray, List.getElem?_cons_succ, List.getElem?_cons_zero, Option.map_some, Option.some.injEq]; (first | (go_simp; done) | (go_simp; with_reducible rfl))
              try simp only [Act.put, List.setIfInBounds_toArray, List.set_cons_zero, List.set_cons_succ]
              refine hOne 20 (by kernel_rfl) (fun K hK => ?_)
              go_simp
              refine (same_any a c ca cc g k _ (HG.out.below (BB.out.trans (hH2.1.mono BB.out.size))) (HK.out.below (BB.out.trans (hH2.1.mono BB.out.size))) (by omega) (by omega) (HM.out.below (BB.out.trans (hH2.1.mono BB.out.size)))).mono ?_
              rintro e w9 ⟨rfl, c9⟩
              rw [HR.out]
              (try dsimp only)
              refine hK.out _ _ ?_ (fun hH3 => ?_)
              · exact ⟨hH2.1.trans (c9.mono hH2.1.size), cell_below c9 hH2.2.1, cell_below c9 hH2.2.2.1, cell_below c9 hH2.2.2.2.1, cell_below c9 hH2.2.2.2.2.1, cell_below c9 hH2.2.2.2.2.2.1, cell_below c9 hH2.2.2.2.2.2.2.1, cell_below c9 hH2.2.2.2.2.2.2.2⟩
              clear hK K hH2
              try simp only [Act.put, List.setIfInBounds_toArray, List.set_cons_zero, List.set_cons_succ]
              refine hTake (i := 21) (some 104) (v := ?_) (by rfl) (by kernel_rfl) (by kernel_rfl) (by kernel_rfl) (fun _ _ _ h => h) (by rfl) ?_ hH3 ?_
              rotate_left
              · intro w hSw; (try dsimp only at hSw); simp only [List.getElem?_toArray, List.getElem?_cons_succ, List.getElem?_cons_zero, Option.map_some, Option.some.injEq]; (first | (go_simp; done) | (go_simp; with_reducible rfl))
              try simp only [Act.put, List.setIfInBounds_toArray, List.set_cons_zero, List.set_cons_succ]
              refine hTake (i := 22) (some 105) (v := ?_) (by rfl) (by kernel_rfl) (by kernel_rfl) (by kernel_rfl) (fun _ _ _ h => h) (by rfl) ?_ hH3 ?_
              rotate_left
              · intro w hSw; (try dsimp only at hSw); simp only [List.getElem?_toArray, List.getElem?_cons_succ, List.getElem?_cons_zero, Option.map_some, Option.some.injEq]; (first | (go_simp; done) | (go_simp; with_reducible rfl))
              try simp only [Act.put, List.setIfInBounds_toArray, List.set_cons_zero, List.set_cons_succ]
              refine hTake (i := 23) (some 6) (v := ?_) (by rfl) (by kernel_rfl) (by kernel_rfl) (by kernel_rfl) (fun _ _ _ h => h) (by rfl) ?_ hH3 ?_
              rotate_left
              · intro w hSw; (try dsimp only at hSw); simp only [List.getElem?_toArray, List.getElem?_cons_succ, List.getElem?_cons_zero, Option.map_some, Option.some.injEq]; (first | (go_simp; done) | (go_simp; with_reducible rfl))
              try simp only [Act.put, List.setIfInBounds_toArray, List.set_cons_zero, List.set_cons_succ]
              refine wpAnyH_done (by kernel_rfl) ?_ _
              have HB2 := Tre.hid hH3.1
              clear hH3
              go_wp2_with fail
              go_ret
              exact ⟨rfl, BB.out.trans (HB2.out.mono BB.out.size)⟩
end Go.Proofs.Ytgngnkajjldnlaa.gr
