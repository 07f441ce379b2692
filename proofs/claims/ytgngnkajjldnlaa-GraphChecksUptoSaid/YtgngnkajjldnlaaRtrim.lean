/- The reference's Trim. -/
import Derived.Test.YtgngnkajjldnlaaRcopy
import Derived.Test.YtgngnkajjldnlaaTrimp
import Derived.Test.YtgngnkajjldnlaaRegw
import Derived.Test.YtgngnkajjldnlaaAlive
namespace Go.Tre
/-- where the nodes go, as a list; the first k are laid -/
def toL (L : List Nat) (n k : Nat) : List Nat := (List.range n).map fun x => if x ∈ L.take k then L.idxOf x else 0
theorem toL_len (L : List Nat) (n k : Nat) : (toL L n k).length = n := by simp [toL]
theorem toL_zero (L : List Nat) (n : Nat) : toL L n 0 = List.replicate n 0 := by
  unfold toL
  apply List.ext_getElem
  · simp
  · intro i h1 h2
    simp
theorem toL_set {L : List Nat} (hn : L.Nodup) {n k : Nat} (h : k < L.length) : (toL L n k).set L[k] k = toL L n (k + 1) := by
  apply List.ext_getElem?
  intro x
  unfold toL
  rw [List.getElem?_set]
  by_cases e : L[k] = x
  · rw [if_pos e]
    simp only [List.length_map, List.length_range, List.getElem?_map]
    by_cases hx : L[k] < n
    · rw [if_pos hx, ← e, List.getElem?_range hx, Option.map_some, if_pos (by rw [take_snoc_n h]; exact List.mem_append.2 (.inr (List.mem_singleton.2 rfl))), idxOf_nodup hn h]
    · rw [if_neg hx, ← e, List.getElem?_eq_none (by simpa using hx)]
      rfl
  · rw [if_neg e]
    simp only [List.getElem?_map]
    by_cases hx : x < n
    · rw [List.getElem?_range hx, Option.map_some, Option.map_some]
      have : (x ∈ L.take (k + 1)) = (x ∈ L.take k) := by
        rw [take_snoc_n h, List.mem_append, List.mem_singleton]
        simp only [show ¬ x = L[k] from fun h' => e h'.symm, or_false]
      simp only [this]
    · rw [List.getElem?_eq_none (by simpa using hx)]; rfl
theorem toL_at (L : List Nat) {n y : Nat} (hy : y ∈ L) (hn : y < n) : (toL L n L.length)[y]? = some (L.idxOf y) := by
  unfold toL
  rw [List.getElem?_map, List.getElem?_range hn, Option.map_some, List.take_length, if_pos hy]
end Go.Tre
namespace Go.Proofs.Ytgngnkajjldnlaa.gr
open Go.RowKit Go.Shelf Go.Maps Go.Tre lex
theorem _root_.Go.Tre.Mem.push2b {w0 w : World} {rs l : List Res} {a b n : Res} (h : Mem w0 w (a :: b :: n :: manyR l :: rs)) : Mem w0 w (n :: manyR (l ++ [a, b]) :: rs) := by
  have h2 : Mem w0 w (manyR l :: a :: b :: n :: rs) := h.front 3 rfl
  have h3 : Mem w0 w (a :: manyR l :: b :: n :: rs) := h2.front 1 rfl
  have h4 : Mem w0 w (b :: manyR (l ++ [a]) :: n :: rs) := h3.into.front 1 rfl
  have h5 : Mem w0 w (n :: manyR ((l ++ [a]) ++ [b]) :: rs) := h4.into.front 1 rfl
  rw [List.append_assoc] at h5
  exact h5

set_option maxRecDepth 100000 in
set_option maxHeartbeats 8000000 in
theorem refTrim (a : Option Addr) (ca : Nat) (g : Tre.Graph) (w : World) (hg : NodesAt w a g.ns) (wg : g.weight ≤ 2097152) :
    Calls Try.prog 18 #[.agg #[.slice a g.ns.length ca, .int .i64 g.root]] w fun e w' =>
      ∃ v ds, e = .returned (.agg #[v, .int .i64 0]) ∧ ds.map NodeV.n = g.trim.ns ∧ Mem w w' [nodesR v ds, kidsR ds] := by
  have M0 := ((Mem.nil w).allocR #[.slice a g.ns.length ca, .int .i64 g.root] 24).allocR #[.slice none 0 0, .int .i64 0] 24
  rw [heapSize_alloc] at M0
  have HG := Tre.hid hg
  have HM0 := Tre.hid M0
  have HRL := Tre.hid g.reach_lt
  have HRK := Tre.hid (fun (a : Nat) (ha : a ∈ g.reachL) => g.reach_kids ha)
  have HND := Tre.hid g.reach_nodup
  have HOK := Tre.hid (fun (a : Nat) (ha : a ∈ g.reachL) => g.reach_ok ha)
  have hln : g.reachL.length ≤ 2097152 := Nat.le_trans g.reach_len wg
  have hgl : g.ns.length ≤ 2097152 := Nat.le_trans (length_le_sum _ (fun n => by unfold Tre.Node.weight; omega) g.ns) wg
  obtain ⟨ii, I1, I2, I3, I4⟩ := info_parts infoN
  have J1 := Tre.hid I1
  have J2 := Tre.hid I2
  have J3 := Tre.hid I3
  have J4 := Tre.hid I4
  obtain ⟨ji, K1, K2, K3, K4⟩ := info_parts infoI
  have L1 := Tre.hid K1
  have L2 := Tre.hid K2
  have L3 := Tre.hid K3
  have L4 := Tre.hid K4
  clear hg M0 I1 I2 I3 I4 K1 K2 K3 K4
  go_enter Try.func18, Try.ntmps18
  go_wp2_with fail
  refine (refReach a ca g _ (HG.out.below HM0.out.below) wg).mono ?_
  rintro e w1 ⟨vl, rfl, m1⟩
  have M1 := HM0.out.call m1
  obtain ⟨al, cl, rfl, hcl⟩ := M1.val 0 rfl
  obtain ⟨g0, g1⟩ := M1.two 2 rfl
  obtain ⟨wm, hmk, hmo, hmg⟩ := run_make_full (P := Try.prog) w1 0 30 3 ji _ 1 Try.underlying30 L1.out L2.out L3.out .i64 .i64 g.ns.length (by rw [L4.out]; omega) (by unfold maxLen; omega) (Nat.zero_le _)
  generalize hL : g.reachL = L at *
  have HL := Tre.hid hL
  have e9 : (madeCells (Value.int .i64 0).cells (g.ns.length * 1)).toList = (toL L g.ns.length 0).map en := by
    rw [show (Value.int .i64 0).cells = #[Value.int .i64 0] from rfl, toList_madeCells_one, Nat.mul_one, toL_zero, List.map_replicate]; rfl
  rw [e9] at hmo
  generalize hbt : w1.heap.size = bt at *
  have M2 : Mem w wm [rowR 3 1 (.slice (some ⟨bt, 0, none⟩) g.ns.length g.ns.length) g.ns.length ((toL L g.ns.length 0).map en), rowR 3 1 (.slice al L.length cl) L.length (L.map rk), cellsR (w.heap.size + 1) 24 #[.slice none 0 0, .int .i64 0], cellsR w.heap.size 24 #[.slice a g.ns.length ca, .int .i64 g.root]] :=
    M1.add hmg (rowR 3 1 (.slice (some ⟨bt, 0, none⟩) g.ns.length g.ns.length) g.ns.length ((toL L g.ns.length 0).map en)) hmo (fun b hb => by have : some bt = some b := hb; cases this; omega)
  have HM2 := Tre.hid M2
  clear m1 M1 M2 hmo hmg hL e9
  go_wp2_with fail
  clear hmk hbt
  go_loopw [18] (fun v18 wr => ∃ k : Nat, k ≤ L.length ∧ v18 = .int .i64 k ∧ Hid (Mem w wr [rowR 3 1 (.slice (some ⟨bt, 0, none⟩) g.ns.length g.ns.length) g.ns.length ((toL L g.ns.length k).map en), rowR 3 1 (.slice al L.length cl) L.length (L.map rk), cellsR (w.heap.size + 1) 24 #[.slice none 0 0, .int .i64 0], cellsR w.heap.size 24 #[.slice a g.ns.length ca, .int .i64 g.root]]))
    (fun v18 _ => L.length - (intOf v18).toNat)
  case atStart => exact ⟨0, Nat.zero_le _, rfl, HM2.out⟩
  case round =>
    obtain ⟨k, hk, rfl, hM⟩ := hrel
    by_cases hlt : k < L.length
    · obtain ⟨gl, rfl, hgl, hgl2, hcl'⟩ := hM.out.getRow 1 rfl k (u := rk L[k]) (by rw [List.getElem?_map, List.getElem?_eq_getElem hlt]; rfl)
      have hxl : L[k] < g.ns.length := HRL.out _ (List.getElem_mem hlt)
      have HS := Tre.hid (toL_set (n := g.ns.length) HND.out hlt)
      generalize L[k] = x at *
      have hcl2 : wr.cell? ⟨gl, k, none⟩ = some (.int .i64 (x : Int)) := hcl'
      obtain ⟨y, hy⟩ : ∃ y, (toL L g.ns.length k)[x]? = some y := ⟨_, List.getElem?_eq_getElem (by rw [toL_len]; exact hxl)⟩
      have ht := hM.out.cellAt 0 rfl x (u := en y) (by rw [List.getElem?_map, hy]; rfl)
      have htf := hM.out.freeAt 0 rfl x
      have MS := hM.out.setRow 0 rfl x (.int .i64 (k : Int))
      have HMS := Tre.hid MS
      have i1 : (0 : Int) ≤ (x : Int) := by omega
      have i2 : (x : Int) < (g.ns.length : Int) := by omega
      clear hcl' hy MS
      go_wp2_with fail
      go_roundw
      case rel =>
        refine ⟨k + 1, by omega, by go_num, ?_⟩
        have h := HMS.out
        rw [show ((toL L g.ns.length k).map en).set x (.int .i64 (k : Int)) = (toL L g.ns.length (k + 1)).map en by rw [← HS.out, List.map_set]] at h
        exact h
      case measure => simp [intOf]; omega
    · have e : k = L.length := by omega
      have hM' := hM.out
      rw [e] at hM'
      have HM3 := Tre.hid (((hM'.allocR #[.slice none 0 0, .int .i64 0] 24).addMany).addNil 33 5)
      clear hM hM' e
      go_wp2_with fail
      obtain ⟨bo, hbo⟩ : ∃ bo : Nat, wr.heap.size = bo := ⟨_, rfl⟩
      rw [hbo] at HM3 ⊢
      clear hbo
      go_loopw [30] (fun v30 wr => ∃ (k : Nat) (vN : Value) (ds : List NodeV), k ≤ L.length ∧ v30 = .int .i64 k ∧ Hid (ds.map NodeV.n = (L.take k).map fun i => trimNode L (g.nd i)) ∧
          Hid (Mem w wr [nodesR vN ds, kidsR ds, cellsR bo 24 #[vN, .int .i64 0], rowR 3 1 (.slice (some ⟨bt, 0, none⟩) g.ns.length g.ns.length) g.ns.length ((toL L g.ns.length L.length).map en), rowR 3 1 (.slice al L.length cl) L.length (L.map rk), cellsR (w.heap.size + 1) 24 #[.slice none 0 0, .int .i64 0], cellsR w.heap.size 24 #[.slice a g.ns.length ca, .int .i64 g.root]]))
        (fun v30 _ => L.length - (intOf v30).toNat)
      case atStart => exact ⟨0, .slice none 0 0, [], Nat.zero_le _, rfl, rfl, HM3.out⟩
      case round =>
        obtain ⟨k, vN, ds, hk, rfl, hds, hM⟩ := hrel
        obtain ⟨aN, cN, rfl, _⟩ := hM.out.val 0 rfl
        by_cases hlt : k < L.length
        · have hmem := List.getElem_mem hlt
          obtain ⟨gl, rfl, hgl, hgl2, hcl'⟩ := hM.out.getRow 4 rfl k (u := rk L[k]) (by rw [List.getElem?_map, List.getElem?_eq_getElem hlt]; rfl)
          have hxl : L[k] < g.ns.length := HRL.out _ hmem
          have HTK : Hid (L.take (k + 1) = L.take k ++ [L[k]]) := by show _ = _; rw [List.take_add_one, List.getElem?_eq_getElem hlt]; rfl
          have hkk := HRK.out _ hmem
          have hax := (HOK.out _ hmem).kids_eq hxl
          generalize hx : L[k] = x at *
          have hcl2 : wr.cell? ⟨gl, k, none⟩ = some (.int .i64 (x : Int)) := hcl'
          obtain ⟨b1, o1, rfl, nx⟩ := HG.out.at_ x (g.nd x) (by rw [Graph.nd_eq hxl]; exact List.getElem?_eq_getElem hxl)
          have hXw : (g.nd x).weight ≤ g.weight := by rw [Graph.nd_eq hxl]; exact node_weight (List.getElem_mem hxl)
          have hdl : ds.length = k := by have := congrArg List.length hds.out; simp at this; omega
          have hdl' : ds.length ≤ 2097152 := by omega
          have HTO : Hid (∀ z ∈ (g.nd x).args, ∃ y : Nat, z = y ∧ y < g.ns.length ∧ wr.cell? ⟨bt, y, none⟩ = some (.int .i64 (placeOf L z))) := by
            intro z hz
            rw [hax] at hz
            obtain ⟨y, hy, rfl⟩ := List.mem_map.1 hz
            have hyL := hkk y hy
            have hyl := HRL.out y hyL
            exact ⟨y, rfl, hyl, hM.out.cellAt 3 rfl y (by rw [List.getElem?_map, toL_at L hyL hyl]; rfl)⟩
          generalize hX : g.nd x = X at *
          have HX := Tre.hid hX
          obtain ⟨ax, cx, lx, dx, x0, x1, x2, x3, x4, xA, xL, _, _⟩ := nx
          have CP := refCopy X ax cx lx dx bt g.ns.length g.ns.length (placeOf L) wr.drew ((xA.below hM.out.below).below (Below.refl _ _).drew) ((xL.below hM.out.below).below (Below.refl _ _).drew) (by omega) HTO.out
          have HCP := Tre.hid CP
          have x0 := cell_below hM.out.below x0
          have x1 := cell_below hM.out.below x1
          have x2 := cell_below hM.out.below x2
          have x3 := cell_below hM.out.below x3
          have x4 := cell_below hM.out.below x4
          have c0 : wr.cell? ⟨w.heap.size, 0, none⟩ = some (.slice (some ⟨b1, o1, none⟩) g.ns.length ca) := hM.out.cell 6 rfl 0 rfl
          have c4 : wr.cell? ⟨bo, 0, none⟩ = some (.slice aN ds.length cN) := hM.out.cell 2 rfl 0 rfl
          have i1 : (0 : Int) ≤ (x : Int) := by omega
          have i2 : (x : Int) < (g.ns.length : Int) := by omega
          clear hX hcl' hx xA xL hmem hkk hax CP hdl
          go_upto_region 12 with fail
          have MR := Tre.hid hM.out.drew
          refine wp_region_keep (S := (fun w' => w'.cell? ⟨bo, 0, none⟩ = some (.slice aN ds.length cN) ∧ w'.cell? ⟨w.heap.size, 0, none⟩ = some (.slice (some ⟨b1, o1, none⟩) g.ns.length ca) ∧ w'.cell? ⟨b1, o1 + x * 5, none⟩ = some (.int .i64 X.kind) ∧ w'.cell? ⟨b1, o1 + x * 5 + 1, none⟩ = some (.string X.name) ∧ w'.cell? ⟨b1, o1 + x * 5 + 2, none⟩ = some (.slice ax X.args.length cx) ∧ w'.cell? ⟨b1, o1 + x * 5 + 3, none⟩ = some (.slice lx X.labels.length dx) ∧ w'.cell? ⟨b1, o1 + x * 5 + 4, none⟩ = some (.bool X.isOpen))) [10, 12] (by kernel_rfl) ?_ (fun hH0 => ?_)
          · exact ⟨c4, c0, x0, x1, x2, x3, x4⟩
          refine lPure (i := 0) (some 34) (v := ?_) (by rfl) (by kernel_rfl) (by kernel_rfl) (by kernel_rfl) (by kernel_rfl) (fun _ _ _ h => h) (by rfl) ?_ (keep_of hH0) ?_
          rotate_left
          · intro w; simp only [List.getElem?_toArray, List.getElem?_cons_zero, Option.map_some, Option.some.injEq]; (first | (go_simp; done) | (go_simp; with_reducible rfl))
          try simp only [Act.put, List.setIfInBounds_toArray, List.set_cons_zero, List.set_cons_succ]
          refine lPure (i := 2) (some 36) (v := ?_) (by rfl) (by kernel_rfl) (by kernel_rfl) (by kernel_rfl) (by kernel_rfl) (fun _ _ _ h => h) (by rfl) ?_ (keep_of hH0) ?_
          rotate_left
          · intro w; simp only [List.getElem?_toArray, List.getElem?_cons_succ, List.getElem?_cons_zero, Option.map_some, Option.some.injEq]; (first | (go_simp; done) | (go_simp; with_reducible rfl))
          try simp only [Act.put, List.setIfInBounds_toArray, List.set_cons_zero, List.set_cons_succ]
          refine lPure (i := 4) (some 38) (v := ?_) (by rfl) (by kernel_rfl) (by kernel_rfl) (by kernel_rfl) (by kernel_rfl) (fun _ _ _ h => h) (by rfl) ?_ (keep_of hH0) ?_
          rotate_left
          · intro w; simp only [List.getElem?_toArray, List.getElem?_cons_succ, List.getElem?_cons_zero, Option.map_some, Option.some.injEq]; (first | (go_simp; done) | (go_simp; with_reducible rfl))
          try simp only [Act.put, List.setIfInBounds_toArray, List.set_cons_zero, List.set_cons_succ]
          refine lPure (i := 7) (some 41) (v := ?_) (by rfl) (by kernel_rfl) (by kernel_rfl) (by kernel_rfl) (by kernel_rfl) (fun _ _ _ h => h) (by rfl) ?_ (keep_of hH0) ?_
          rotate_left
          · intro w; simp only [List.getElem?_toArray, List.getElem?_cons_succ, List.getElem?_cons_zero, Option.map_some, Option.some.injEq]; (first | (go_simp; done) | (go_simp; with_reducible rfl))
          try simp only [Act.put, List.setIfInBounds_toArray, List.set_cons_zero, List.set_cons_succ]
          refine lTake (i := 1) (some 35) (v := ?_) (by rfl) (by kernel_rfl) (by kernel_rfl) (by kernel_rfl) (by kernel_rfl) (by kernel_rfl) (fun _ _ _ h => h) (by rfl) ?_ hH0 ?_
          rotate_left
          · intro w hSw; (try dsimp only at hSw); simp only [List.getElem?_toArray, List.getElem?_cons_succ, List.getElem?_cons_zero, Option.map_some, Option.some.injEq]; (first | (go_simp; done) | (go_simp; with_reducible rfl))
          try simp only [Act.put, List.setIfInBounds_toArray, List.set_cons_zero, List.set_cons_succ]
          refine lTake (i := 3) (some 37) (v := ?_) (by rfl) (by kernel_rfl) (by kernel_rfl) (by kernel_rfl) (by kernel_rfl) (by kernel_rfl) (fun _ _ _ h => h) (by rfl) ?_ hH0 ?_
          rotate_left
          · intro w hSw; (try dsimp only at hSw); simp only [List.getElem?_toArray, List.getElem?_cons_succ, List.getElem?_cons_zero, Option.map_some, Option.some.injEq]; (first | (go_simp; done) | (go_simp; with_reducible rfl))
          try simp only [Act.put, List.setIfInBounds_toArray, List.set_cons_zero, List.set_cons_succ]
          refine lPure (i := 5) (some 39) (v := ?_) (by rfl) (by kernel_rfl) (by kernel_rfl) (by kernel_rfl) (by kernel_rfl) (fun _ _ _ h => h) (by rfl) ?_ (keep_of hH0) ?_
          rotate_left
          · intro w; simp only [List.getElem?_toArray, List.getElem?_cons_succ, List.getElem?_cons_zero, Option.map_some, Option.some.injEq]; (first | (go_simp; done) | (go_simp; with_reducible rfl))
          try simp only [Act.put, List.setIfInBounds_toArray, List.set_cons_zero, List.set_cons_succ]
          refine lTake (i := 6) (some 40) (v := ?_) (by rfl) (by kernel_rfl) (by kernel_rfl) (by kernel_rfl) (by kernel_rfl) (by kernel_rfl) (fun _ _ _ h => h) (by rfl) ?_ hH0 ?_
          rotate_left
          · intro w hSw; (try dsimp only at hSw); simp only [List.getElem?_toArray, List.getElem?_cons_succ, List.getElem?_cons_zero, Option.map_some, Option.some.injEq]; (first | (go_simp; done) | (go_simp; with_reducible rfl))
          try simp only [Act.put, List.setIfInBounds_toArray, List.set_cons_zero, List.set_cons_succ]
          refine lOne 8 (by kernel_rfl) (LStep.op (fun K hK => ?_))
          go_simp
          refine HCP.out.mono ?_
          rintro e w3 ⟨va, vl, rfl, m3⟩
          have M3 := MR.out.call m3
          obtain ⟨aA, cA, rfl, _⟩ := M3.val 0 rfl
          obtain ⟨aL, cL, rfl, _⟩ := M3.val 1 rfl
          have HM3 := Tre.hid M3
          have q3 := HM3.out.cell 4 rfl 0 rfl
          have q4 := HM3.out.cell 8 rfl 0 rfl
          have B3 := m3.below
          clear M3 m3
          (try dsimp only)
          refine hK.out _ _ ?_ (fun hH1 => ?_)
          · exact ⟨q3, q4, cell_below B3 hH0.2.2.1, cell_below B3 hH0.2.2.2.1, cell_below B3 hH0.2.2.2.2.1, cell_below B3 hH0.2.2.2.2.2.1, cell_below B3 hH0.2.2.2.2.2.2⟩
          clear hK K hH0
          try simp only [Act.put, List.setIfInBounds_toArray, List.set_cons_zero, List.set_cons_succ]
          refine lOne 9 (by kernel_rfl) (LStep.op (fun K hK => ?_))
          clear q3 q4 B3
          go_simp
          have HB := Tre.hid (HM3.out.allocRow #[.int .i64 X.kind, .string X.name, .slice aA X.args.length cA, .slice aL X.labels.length cL, .bool X.isOpen] 33 5 1 (by unfold maxLen; omega) rfl)
          have BB : Below w3.heap.size w3 (w3.alloc (.cells #[.int .i64 X.kind, .string X.name, .slice aA X.args.length cA, .slice aL X.labels.length cL, .bool X.isOpen] 33)) := (Below.refl _ _).alloc (Nat.le_refl _) _
          refine hK.out _ _ ?_ (fun hH2 => ?_)
          · exact ⟨cell_below BB hH1.1, cell_below BB hH1.2.1, cell_below BB hH1.2.2.1, cell_below BB hH1.2.2.2.1, cell_below BB hH1.2.2.2.2.1, cell_below BB hH1.2.2.2.2.2.1, cell_below BB hH1.2.2.2.2.2.2⟩
          clear hK K hH1
          try simp only [Act.put, List.setIfInBounds_toArray, List.set_cons_zero, List.set_cons_succ]
          refine lOne 10 (by kernel_rfl) (LFall.op (by kernel_rfl) (fun K hK => ?_))
          clear BB
          simp only [List.getElem?_toArray, List.getElem?_cons_succ, List.getElem?_cons_zero]
          rw [if_pos (by rfl)]
          refine wp_append_row _ _ _ 22 (by rfl) 33 ii _ 5 80 Try.underlying22 J1.out J2.out J3.out J4.out rfl (by omega) (.slice aN ds.length cN) ds.length (ds.flatMap NodeV.cells) (by rfl) (HB.out.row 3 rfl) (some ⟨w3.heap.size, 0, none⟩) 1 1 [.int .i64 X.kind, .string X.name, .slice aA X.args.length cA, .slice aL X.labels.length cL, .bool X.isOpen] (by rfl) ⟨rfl, fun j u hj => ⟨_, 0, rfl, by rw [Nat.zero_add]; exact HB.out.cellAt 0 rfl j hj⟩⟩ (by simp [Value.oneCell']) (by unfold maxLen; omega) (by omega) ?_
          intro v' w4 hown4 hgrow4 hat4
          have M4 := HB.out.grow 3 rfl hgrow4 hown4 hat4
          obtain ⟨a4, c4, rfl, _⟩ := M4.val 3 rfl
          have H4 := Tre.hid M4
          clear M4 hown4 hgrow4 hat4
          (try dsimp only)
          refine hK.out _ _ ?_
          clear hK K hH2
          try simp only [Act.put, List.setIfInBounds_toArray, List.set_cons_zero, List.set_cons_succ]
          refine lPure (i := 11) (some 45) (v := ?_) (by rfl) (by kernel_rfl) (by kernel_rfl) (by kernel_rfl) (by kernel_rfl) (fun _ _ _ h => h) (by rfl) ?_ (keep_fell (by kernel_rfl)) ?_
          rotate_left
          · intro w; simp only [List.getElem?_toArray, List.getElem?_cons_succ, List.getElem?_cons_zero, Option.map_some, Option.some.injEq]; (first | (go_simp; done) | (go_simp; with_reducible rfl))
          try simp only [Act.put, List.setIfInBounds_toArray, List.set_cons_zero, List.set_cons_succ]
          refine lOne 12 (by kernel_rfl) (LFall.op (by kernel_rfl) (fun K hK => ?_))
          have f2 := H4.out.free 5 rfl 0
          have q2 := H4.out.cell 5 rfl 0 rfl
          have H5 := Tre.hid (H4.out.setCell 5 rfl 0 (.slice a4 (ds.length + 1) c4))
          go_simp
          refine hK.out _ _ ?_
          clear hK K
          try simp only [Act.put, List.setIfInBounds_toArray, List.set_cons_zero, List.set_cons_succ]
          refine lDone (by kernel_rfl) ?_
          have H6 := Tre.hid (H5.out.del 0)
          clear q2 f2
          go_wp2_with fail
          go_roundw
          case rel =>
            have hk : kids ⟨trimNode L X, .slice aA X.args.length cA, .slice aL X.labels.length cL⟩ = [rowR 3 1 (.slice aA X.args.length cA) X.args.length ((X.args.map (placeOf L)).map (Value.int .i64)), rowR 9 1 (.slice aL X.labels.length cL) X.labels.length (X.labels.map Value.string)] := by
              simp [kids, trimNode]
            refine ⟨k + 1, .slice a4 (ds.length + 1) c4, ds ++ [⟨trimNode L X, .slice aA X.args.length cA, .slice aL X.labels.length cL⟩], by omega, by go_num, ?_, ?_⟩
            · show _ = _
              rw [List.map_append, hds.out, HTK.out, List.map_append, List.map_singleton, List.map_singleton, HX.out]
            · show Mem _ _ _
              rw [nodesR_snoc, kidsR_snoc, hk]
              exact H6.out.push2b
          case measure => simp [intOf]; omega
        · have e : L.take k = L := List.take_of_length_le (by omega)
          have hd := hds.out
          rw [e] at hd
          have HD := Tre.hid hd
          have q0 : wr.cell? ⟨bo, 0, none⟩ = some (.slice aN ds.length cN) := hM.out.cell 2 rfl 0 rfl
          have q1 : wr.cell? ⟨bo, 1, none⟩ = some (.int .i64 0) := hM.out.cell 2 rfl 1 rfl
          have p0 : wr.cell? ⟨w.heap.size + 1, 0, none⟩ = some (.slice none 0 0) := hM.out.cell 5 rfl 0 rfl
          have p1 : wr.cell? ⟨w.heap.size + 1, 1, none⟩ = some (.int .i64 0) := hM.out.cell 5 rfl 1 rfl
          have q0f := hM.out.free 5 rfl 0
          have q1f := hM.out.free 5 rfl 1
          have M6 := (hM.out.setCell 5 rfl 0 (.slice aN ds.length cN)).setCell 5 rfl 1 (.int .i64 0)
          have HM6 := Tre.hid M6
          clear e hd hds M6
          go_wp2_with fail
          have z0 : ((wr.setCell ⟨w.heap.size + 1, 0, none⟩ (.slice aN ds.length cN)).setCell ⟨w.heap.size + 1, 1, none⟩ (.int .i64 0)).cell? ⟨w.heap.size + 1, 0, none⟩ = some (.slice aN ds.length cN) := HM6.out.cell 5 rfl 0 rfl
          have z1 : ((wr.setCell ⟨w.heap.size + 1, 0, none⟩ (.slice aN ds.length cN)).setCell ⟨w.heap.size + 1, 1, none⟩ (.int .i64 0)).cell? ⟨w.heap.size + 1, 1, none⟩ = some (.int .i64 0) := HM6.out.cell 5 rfl 1 rfl
          refine bodyPost_ret (v := .agg #[.slice aN ds.length cN, .int .i64 0]) (by simp [results, Try.results18, go_sem, z0, z1]) rfl ⟨_, ds, rfl, ?_, HM6.out.sub (by simp)⟩
          rw [HD.out]
          unfold Graph.trim
          rw [HL.out]
end Go.Proofs.Ytgngnkajjldnlaa.gr
