/- graph.Trim. -/
import Derived.Test.YtgngnkajjldnlaaNods
namespace Go.Tre
/-- which place a node has among those that are reached -/
def placeOf (L : List Nat) (a : Int) : Int := ((L.idxOf a.toNat : Nat) : Int)
def trimNode (L : List Nat) (n : Tre.Node) : Tre.Node := { n with args := n.args.map (placeOf L) }
def Graph.trim (g : Tre.Graph) : Tre.Graph := ⟨g.reachL.map fun i => trimNode g.reachL (g.nd i), 0⟩
def idxMap (L : List Nat) (k : Nat) : Nat → Option Nat := fun x => if x ∈ L.take k then some (L.idxOf x) else none
theorem idxOf_nodup {L : List Nat} (hn : L.Nodup) {k : Nat} (h : k < L.length) : L.idxOf L[k] = k := by
  have h1 : L.idxOf L[k] < L.length := List.idxOf_lt_length_of_mem (List.getElem_mem h)
  have h2 : L[L.idxOf L[k]] = L[k] := List.getElem_idxOf h1
  exact (List.getElem?_inj h1 hn).1 (by rw [List.getElem?_eq_getElem h1, List.getElem?_eq_getElem h, h2])
theorem idxMap_succ {L : List Nat} (hn : L.Nodup) {k : Nat} (h : k < L.length) : upd (idxMap L k) L[k] k = idxMap L (k + 1) := by
  funext x
  unfold upd idxMap
  have e : L.take (k + 1) = L.take k ++ [L[k]] := by rw [List.take_add_one, List.getElem?_eq_getElem h]; rfl
  rw [e]
  by_cases hx : x = L[k]
  · subst hx
    rw [if_pos rfl, if_pos (List.mem_append.2 (.inr (List.mem_singleton.2 rfl))), idxOf_nodup hn h]
  · rw [if_neg hx]
    have : (x ∈ L.take k ++ [L[k]]) = (x ∈ L.take k) := by rw [List.mem_append, List.mem_singleton]; simp only [hx, or_false]
    simp only [this]
theorem idxMap_all (L : List Nat) {x : Nat} (h : x ∈ L) : idxMap L L.length x = some (L.idxOf x) := by
  unfold idxMap; rw [List.take_length, if_pos h]
/-- the first j are turned -/
def half {α : Type} (f : α → α) (l : List α) (j : Nat) : List α := (l.take j).map f ++ l.drop j
theorem half_zero {α : Type} (f : α → α) (l : List α) : half f l 0 = l := by simp [half]
theorem half_all {α : Type} (f : α → α) (l : List α) : half f l l.length = l.map f := by simp [half]
theorem half_at {α : Type} (f : α → α) (l : List α) {j : Nat} (h : j < l.length) : (half f l j)[j]? = some l[j] := by
  unfold half
  rw [List.getElem?_append_right (by rw [List.length_map, List.length_take]; omega), List.length_map, List.length_take, Nat.min_eq_left (by omega), Nat.sub_self, List.getElem?_drop, Nat.add_zero, List.getElem?_eq_getElem h]
theorem half_set {α : Type} (f : α → α) (l : List α) {j : Nat} (h : j < l.length) : (half f l j).set j (f l[j]) = half f l (j + 1) := by
  unfold half
  have e : ((l.take j).map f).length = j := by rw [List.length_map, List.length_take]; omega
  rw [List.set_append_right _ _ (by omega), e, Nat.sub_self, List.drop_eq_getElem_cons h, List.set_cons_zero, List.take_add_one, List.getElem?_eq_getElem h, List.map_append]
  simp
theorem half_len {α : Type} (f : α → α) (l : List α) (j : Nat) : (half f l j).length = l.length := by
  unfold half
  rw [List.length_append, List.length_map, List.length_take, List.length_drop]; omega
theorem Graph.reach_kids (g : Tre.Graph) {a : Nat} (ha : a ∈ g.reachL) : ∀ b ∈ g.kids a, b ∈ g.reachL := by
  unfold Graph.reachL at ha ⊢
  by_cases h : g.checkC = 0
  · rw [if_pos h] at ha ⊢
    have og := Graph.ok_of h
    exact (g.dfs_spec og _ [g.root.toNat] [] (Nat.le_refl _) (by simp) (by simp) (fun a ha => by simp at ha; rw [ha]; exact og.root1) (by simp)).2.2.1 a ha
  · rw [if_neg h] at ha; simp at ha
theorem Graph.reach_ok {g : Tre.Graph} {a : Nat} (ha : a ∈ g.reachL) : g.Ok := by
  unfold Graph.reachL at ha
  by_cases h : g.checkC = 0
  · exact Graph.ok_of h
  · rw [if_neg h] at ha; simp at ha
end Go.Tre
namespace Go.Proofs.Ytgngnkajjldnlaa.gr
open Go.RowKit Go.Shelf Go.Maps Go.Tre lex
theorem infoN : (Try.prog.info? 33).map (fun i => (i.zero, i.size, i.bytes)) = some (some (.agg #[.int .i64 0, .string ByteArray.empty, .slice none 0 0, .slice none 0 0, .bool false]), 5, 80) := by kernel_rfl

set_option maxRecDepth 100000 in
set_option maxHeartbeats 4000000 in
theorem trim_any (a : Option Addr) (ca : Nat) (g : Tre.Graph) (w : World) (hg : NodesAt w a g.ns) (wg : g.weight ≤ 2097152) (hm : MaxAt w) :
    Calls Try.prog 16 #[.agg #[.slice a g.ns.length ca, .int .i64 g.root]] w fun e w' =>
      ∃ v ds, e = .returned (.agg #[v, .int .i64 0]) ∧ ds.map NodeV.n = g.trim.ns ∧ Mem w w' [nodesR v ds, kidsR ds] := by
  have M0 : Mem w ((w.alloc (.cells #[.slice a g.ns.length ca, .int .i64 g.root] 24)).alloc (.cells #[.slice none 0 0, .int .i64 0] 24)) _ := ((Mem.nil w).allocR #[.slice a g.ns.length ca, .int .i64 g.root] 24).allocR #[.slice none 0 0, .int .i64 0] 24
  have z1 : (w.alloc (.cells #[.slice a g.ns.length ca, .int .i64 g.root] 24)).heap.size = w.heap.size + 1 := by simp
  rw [z1] at M0
  have HM := Tre.hid hm
  have HG := Tre.hid hg
  have HM0 := Tre.hid M0
  have hrl := g.reach_lt
  have HRL := Tre.hid hrl
  have HRK := Tre.hid (fun (a : Nat) (ha : a ∈ g.reachL) => g.reach_kids ha)
  have HND := Tre.hid g.reach_nodup
  have HOK := Tre.hid (fun (a : Nat) (ha : a ∈ g.reachL) => g.reach_ok ha)
  have hln : g.reachL.length ≤ 2097152 := Nat.le_trans g.reach_len wg
  have hgl : g.ns.length ≤ 2097152 := Nat.le_trans (length_le_sum _ (fun n => by unfold Tre.Node.weight; omega) g.ns) wg
  clear hg hm M0 hrl z1
  go_enter Try.func16, Try.ntmps16
  go_wp2_with fail
  refine (reach_any a ca g _ (HG.out.below HM0.out.below) wg (HM.out.below HM0.out.below)).mono ?_
  rintro e w1 ⟨vl, rfl, m1⟩
  have M1 := HM0.out.call m1
  obtain ⟨al, cl, rfl, hcl⟩ := M1.val 0 rfl
  have hmk : ∀ (n : Int) (w : World), (Instr.makeMap 42 (some (.int .i64 n))).run Try.prog w = .ok (.map (some w.heap.size)) (w.alloc (.map #[] 0)) := fun n w => by
    simp [Instr.makeMap, run_underlying Try.underlying42, asInt, asIntOf, newObj]; rfl
  have M2 := M1.allocMap Try.prog 3 en en
  have HM2 := Tre.hid M2
  obtain ⟨ii, I1, I2, I3, I4⟩ := info_parts infoN
  have J1 := Tre.hid I1
  have J2 := Tre.hid I2
  have J3 := Tre.hid I3
  have J4 := Tre.hid I4
  clear m1 M1 M2 I1 I2 I3 I4
  generalize hL : g.reachL = L at *
  have HL := Tre.hid hL
  clear hL
  go_wp2_with fail
  go_loopw [19] (fun v19 wr => ∃ k N : Nat, k ≤ L.length ∧ v19 = .int .i64 k ∧
      Hid (Mem w wr [mapR Try.prog 3 en en w1.heap.size N (idxMap L k), rowR 3 1 (.slice al L.length cl) L.length (L.map rk), cellsR (w.heap.size + 1) 24 #[.slice none 0 0, .int .i64 0], cellsR w.heap.size 24 #[.slice a g.ns.length ca, .int .i64 g.root]]))
    (fun v19 _ => L.length - (intOf v19).toNat)
  case atStart => exact ⟨0, 0, Nat.zero_le _, rfl, by have e : idxMap L 0 = fun _ => none := (by funext x; simp [idxMap]); rw [e]; exact HM2.out⟩
  case round =>
    obtain ⟨k, N, hk, rfl, hM⟩ := hrel
    by_cases hlt : k < L.length
    · obtain ⟨gl, rfl, hgl, hgl2, hcl'⟩ := hM.out.getRow 1 rfl k (u := rk L[k]) (by rw [List.getElem?_map, List.getElem?_eq_getElem hlt]; rfl)
      have hxl : L[k] < g.ns.length := HRL.out _ (List.getElem_mem hlt)
      have HS := Tre.hid (idxMap_succ HND.out hlt)
      generalize L[k] = x at *
      have hcl2 : wr.cell? ⟨gl, k, none⟩ = some (.int .i64 (x : Int)) := hcl'
      clear hcl'
      go_wp2_with (refine wpList_store rfl _ _ _ 42 (.inl rfl) 3 KI injN Try.underlying42 rfl (hM.out.map 0 rfl) x rfl (kn x (by omega)) k rfl ?_; intro w2 hm2 hg2; have M3 := hM.out.put 0 rfl hg2 hm2; have HM3 := Tre.hid M3; clear M3 hm2 hg2)
      go_roundw
      case rel => exact ⟨k + 1, _, by omega, by go_num, by have := HM3.out; rw [HS.out] at this; exact this⟩
      case measure => simp [intOf]; omega
    · have e : k = L.length := by omega
      have hM' := hM.out
      rw [e] at hM'
      have HM3 := Tre.hid hM'
      clear hM hM' e
      go_wp2_with fail
      obtain ⟨wo, rfl⟩ : ∃ wo : World, wo = wr := ⟨_, rfl⟩
      go_loopw [30] (fun v30 wr => ∃ (k : Nat) (vN : Value) (ds : List NodeV), k ≤ L.length ∧ v30 = .int .i64 k ∧ Hid (ds.map NodeV.n = (L.take k).map fun i => trimNode L (g.nd i)) ∧
          Hid (Mem w wr [nodesR vN ds, kidsR ds, mapR Try.prog 3 en en w1.heap.size N (idxMap L L.length), rowR 3 1 (.slice al L.length cl) L.length (L.map rk), cellsR (w.heap.size + 1) 24 #[vN, .int .i64 0], cellsR w.heap.size 24 #[.slice a g.ns.length ca, .int .i64 g.root]]))
        (fun v30 _ => L.length - (intOf v30).toNat)
      case atStart =>
        exact ⟨0, .slice none 0 0, [], Nat.zero_le _, rfl, rfl, HM3.out.addMany.addNil 33 5⟩
      case round =>
        obtain ⟨k, vN, ds, hk, rfl, hds, hM⟩ := hrel
        obtain ⟨aN, cN, rfl, _⟩ := hM.out.val 0 rfl
        by_cases hlt : k < L.length
        · have hmem := List.getElem_mem hlt
          obtain ⟨gl, rfl, hgl, hgl2, hcl'⟩ := hM.out.getRow 3 rfl k (u := rk L[k]) (by rw [List.getElem?_map, List.getElem?_eq_getElem hlt]; rfl)
          have hxl : L[k] < g.ns.length := HRL.out _ hmem
          have HTK : Hid (L.take (k + 1) = L.take k ++ [L[k]]) := by show _ = _; rw [List.take_add_one, List.getElem?_eq_getElem hlt]; rfl
          have hkk := HRK.out _ hmem
          have hax := (HOK.out _ hmem).kids_eq hxl
          have HAX := Tre.hid hax
          have HKK := Tre.hid hkk
          clear hax hkk
          generalize hx : L[k] = x at *
          have hcl2 : wr.cell? ⟨gl, k, none⟩ = some (.int .i64 (x : Int)) := hcl'
          obtain ⟨b1, o1, rfl, nx⟩ := (HG.out.below hM.out.below).at_ x (g.nd x) (by rw [Graph.nd_eq hxl]; exact List.getElem?_eq_getElem hxl)
          have hXw : (g.nd x).weight ≤ g.weight := by rw [Graph.nd_eq hxl]; exact node_weight (List.getElem_mem hxl)
          have hlab : (g.nd x).labels.length + (g.nd x).args.length ≤ 4194304 := by have h1 := args_len (g.nd x); have h2 := labels_len (g.nd x); omega
          generalize hX : g.nd x = X at *
          have HX := Tre.hid hX
          obtain ⟨ax, cx, lx, dx, x0, x1, x2, x3, x4, xA, xL, _, _⟩ := nx
          have c0 : wr.cell? ⟨w.heap.size, 0, none⟩ = some (.slice (some ⟨b1, o1, none⟩) g.ns.length ca) := hM.out.cell 5 rfl 0 rfl
          have MA := hM.out.allocR #[.int .i64 X.kind, .string X.name, .slice ax X.args.length cx, .slice lx X.labels.length dx, .bool X.isOpen] 33
          have HMA := Tre.hid MA
          have XA := Tre.hid (xA.below (Below.refl _ _))
          have XL := Tre.hid (xL.below (Below.refl _ _))
          have BA := Tre.hid ((Below.refl wr.heap.size wr).alloc (Nat.le_refl _) (.cells #[.int .i64 X.kind, .string X.name, .slice ax X.args.length cx, .slice lx X.labels.length dx, .bool X.isOpen] 33))
          clear hX hcl' hx xA xL hmem hXw MA
          go_wp2_with fail
          refine (cloneStrs lx dx X.labels _ (XL.out.below BA.out) (by omega)).mono ?_
          rintro e w2 ⟨vl2, rfl, m2⟩
          have M2 := HMA.out.call m2
          obtain ⟨al2, cl2, rfl, _⟩ := M2.val 0 rfl
          have n2 : w2.cell? ⟨wr.heap.size, 2, none⟩ = some (.slice ax X.args.length cx) := M2.cell 1 rfl 2 rfl
          have n3 : w2.cell? ⟨wr.heap.size, 3, none⟩ = some (.slice lx X.labels.length dx) := M2.cell 1 rfl 3 rfl
          have n3f := M2.free 1 rfl 3
          have M3 := M2.setCell 1 rfl 3 (.slice al2 X.labels.length cl2)
          have HM3 := Tre.hid M3
          have B2 : Below wr.heap.size wr w2 := BA.out.trans (m2.below.mono (by simp))
          have B3 : Below wr.heap.size wr (w2.setCell ⟨wr.heap.size, 3, none⟩ (.slice al2 X.labels.length cl2)) := B2.setCell (Nat.le_refl _) _
          have HB3 := Tre.hid B3
          clear m2 M2 M3 B2 B3
          go_wp2_with fail
          refine (cloneInts ax cx X.args _ (XA.out.below HB3.out) (by omega)).mono ?_
          rintro e w3 ⟨va3, rfl, m3⟩
          have M4 := HM3.out.call m3
          obtain ⟨aA, cA, rfl, _⟩ := M4.val 0 rfl
          have k2 : w3.cell? ⟨wr.heap.size, 2, none⟩ = some (.slice ax X.args.length cx) := M4.cell 2 rfl 2 rfl
          have k2f := M4.free 2 rfl 2
          have M5 := M4.setCell 2 rfl 2 (.slice aA X.args.length cA)
          have HM5 := Tre.hid M5
          clear M4 M5 m3 n2 n3 n3f
          go_wp2_with fail
          have k5 : Mem w (w3.setCell ⟨wr.heap.size, 2, none⟩ (.slice aA X.args.length cA)) [rowR 3 1 (.slice aA X.args.length cA) X.args.length ((half (placeOf L) X.args 0).map (Value.int .i64)), rowR 9 1 (.slice al2 X.labels.length cl2) X.labels.length (X.labels.map Value.string),
              cellsR wr.heap.size 33 #[.int .i64 X.kind, .string X.name, .slice aA X.args.length cA, .slice al2 X.labels.length cl2, .bool X.isOpen], nodesR (.slice aN ds.length cN) ds, kidsR ds, mapR Try.prog 3 en en w1.heap.size N (idxMap L L.length),
              rowR 3 1 (.slice (some ⟨gl, 0, none⟩) L.length cl) L.length (L.map rk), cellsR (w.heap.size + 1) 24 #[.slice aN ds.length cN, .int .i64 0], cellsR w.heap.size 24 #[.slice (some ⟨b1, o1, none⟩) g.ns.length ca, .int .i64 g.root]] := by
            rw [half_zero]; exact HM5.out
          have HK5 := Tre.hid k5
          clear k5
          obtain ⟨wp, rfl⟩ : ∃ wp : World, wp = wr := ⟨_, rfl⟩
          go_loopw [50] (fun v50 wi => ∃ j : Nat, j ≤ X.args.length ∧ v50 = .int .i64 j ∧
              Hid (Mem w wi [rowR 3 1 (.slice aA X.args.length cA) X.args.length ((half (placeOf L) X.args j).map (Value.int .i64)), rowR 9 1 (.slice al2 X.labels.length cl2) X.labels.length (X.labels.map Value.string),
              cellsR wp.heap.size 33 #[.int .i64 X.kind, .string X.name, .slice aA X.args.length cA, .slice al2 X.labels.length cl2, .bool X.isOpen], nodesR (.slice aN ds.length cN) ds, kidsR ds, mapR Try.prog 3 en en w1.heap.size N (idxMap L L.length),
              rowR 3 1 (.slice (some ⟨gl, 0, none⟩) L.length cl) L.length (L.map rk), cellsR (w.heap.size + 1) 24 #[.slice aN ds.length cN, .int .i64 0], cellsR w.heap.size 24 #[.slice (some ⟨b1, o1, none⟩) g.ns.length ca, .int .i64 g.root]]))
            (fun v50 _ => X.args.length - (intOf v50).toNat)
          case atStart => exact ⟨0, Nat.zero_le _, rfl, HK5.out⟩
          case round =>
            obtain ⟨j, hj, rfl, hI⟩ := hrel
            have n2 : wr.cell? ⟨wp.heap.size, 2, none⟩ = some (.slice aA X.args.length cA) := hI.out.cell 2 rfl 2 rfl
            by_cases hjl : j < X.args.length
            · obtain ⟨gA, rfl, hgA, hgA2, hA⟩ := hI.out.getRow 0 rfl j (u := .int .i64 X.args[j]) (by rw [List.getElem?_map, half_at _ _ hjl]; rfl)
              have hAf := hI.out.freeAt 0 rfl j
              have HSH := Tre.hid (half_set (placeOf L) X.args hjl)
              have hin : X.args[j].toNat ∈ L := HKK.out _ (by unfold Graph.kids; rw [HX.out]; exact List.mem_map.2 ⟨_, List.getElem_mem hjl, rfl⟩)
              have hlt2 := HRL.out _ hin
              have hnn : (0 : Int) ≤ X.args[j] := by
                have h9 : ∀ z ∈ X.args, (0 : Int) ≤ z := by
                  rw [HAX.out]
                  intro z hz
                  obtain ⟨q, _, e⟩ := List.mem_map.1 hz
                  omega
                exact h9 _ (List.getElem_mem hjl)
              have hpl : placeOf L X.args[j] = ((L.idxOf X.args[j].toNat : Nat) : Int) := rfl
              have HPL := Tre.hid hpl
              have HIM := Tre.hid (idxMap_all L hin)
              obtain ⟨y, hy⟩ : ∃ y : Nat, X.args[j] = (y : Int) := ⟨_, (Int.toNat_of_nonneg hnn).symm⟩
              rw [hy] at hA HSH HPL HIM hlt2
              rw [Int.toNat_natCast] at HIM HPL hlt2
              have hlx : L.idxOf y < 8388608 := by have := List.idxOf_le_length (a := y) (l := L); omega
              generalize hpy : L.idxOf y = py at *
              have i1 : (0 : Int) ≤ j := by omega
              have i2 : (j : Int) < X.args.length := by omega
              have mm := hI.out.map 5 rfl
              have MS := hI.out.setRow 0 rfl j (.int .i64 (py : Int))
              have HMS := Tre.hid MS
              clear MS hpy hpl hy hin
              go_wp2_with (refine wpList_look1_some rfl _ _ 42 rfl 3 KI injN Try.underlying42 (zi _) rfl mm y rfl (kn y (by omega)) py HIM.out ?_)
              go_roundw
              case rel =>
                refine ⟨j + 1, by omega, by go_num, ?_⟩
                have e : ((half (placeOf L) X.args j).map (Value.int .i64)).set j (.int .i64 (py : Int)) = (half (placeOf L) X.args (j + 1)).map (Value.int .i64) := by rw [← HSH.out, List.map_set, HPL.out]
                have := HMS.out
                rw [e] at this
                exact this
              case measure => simp [intOf]; omega
            · have e : j = X.args.length := by omega
              have hI' := hI.out
              rw [e, half_all] at hI'
              have MB := hI'.alloc (.cells #[.int .i64 X.kind, .string X.name, .slice aA X.args.length cA, .slice al2 X.labels.length cl2, .bool X.isOpen] 33)
              have HMB := Tre.hid MB
              have r0 : wr.cell? ⟨wp.heap.size, 0, none⟩ = some (.int .i64 X.kind) := hI.out.cell 2 rfl 0 rfl
              have r1 : wr.cell? ⟨wp.heap.size, 1, none⟩ = some (.string X.name) := hI.out.cell 2 rfl 1 rfl
              have r3 : wr.cell? ⟨wp.heap.size, 3, none⟩ = some (.slice al2 X.labels.length cl2) := hI.out.cell 2 rfl 3 rfl
              have r4 : wr.cell? ⟨wp.heap.size, 4, none⟩ = some (.bool X.isOpen) := hI.out.cell 2 rfl 4 rfl
              have r5 : wr.cell? ⟨w.heap.size + 1, 0, none⟩ = some (.slice aN ds.length cN) := hI.out.cell 7 rfl 0 rfl
              have hdl : ds.length = k := by have := congrArg List.length hds.out; simp at this; omega
              have hdl' : ds.length ≤ 2097152 := by omega
              have HDL := Tre.hid hdl
              clear hI hI' e MB hdl
              go_wp2_with (at_builtin; refine wpList_append_own_at _ rfl _ _ 22 rfl 0 33 ii _ 5 80 Try.underlying22 J1.out J2.out J3.out J4.out rfl (by omega) (.slice aN ds.length cN) ds.length (ds.flatMap NodeV.cells) rfl (HMB.out.row 3 rfl) ⟨wr.heap.size, 0, none⟩ 1 1 [.int .i64 X.kind, .string X.name, .slice aA X.args.length cA, .slice al2 X.labels.length cl2, .bool X.isOpen] rfl rfl (World.news_of_block (cs := #[.int .i64 X.kind, .string X.name, .slice aA X.args.length cA, .slice al2 X.labels.length cl2, .bool X.isOpen]) (t := 33) (fr := (0, 0)) (heap_alloc_new wr _)) (by simp [Value.oneCell']) (by unfold maxLen; omega) (by omega) (Nat.zero_le _) ?_; intro v' w4 hown4 hgrow4 hnil4 hat4; have M4 := HMB.out.grow 3 rfl hgrow4 hown4 hat4; obtain ⟨a4, c4, rfl, _⟩ := M4.val 3 rfl; have r6 : w4.cell? ⟨w.heap.size + 1, 0, none⟩ = some (.slice aN ds.length cN) := M4.cell 7 rfl 0 rfl; have r6f := M4.free 7 rfl 0; have M5 := M4.setCell 7 rfl 0 (.slice a4 (ds.length + 1) c4); have HM5 := Tre.hid M5; clear M4 M5 hown4 hgrow4 hnil4 hat4)
              go_roundw
              case rel =>
                have hk : kids ⟨trimNode L X, .slice aA X.args.length cA, .slice al2 X.labels.length cl2⟩ = [rowR 3 1 (.slice aA X.args.length cA) X.args.length ((X.args.map (placeOf L)).map (Value.int .i64)), rowR 9 1 (.slice al2 X.labels.length cl2) X.labels.length (X.labels.map Value.string)] := by
                  simp [kids, trimNode]
                refine ⟨k + 1, .slice a4 (ds.length + 1) c4, ds ++ [⟨trimNode L X, .slice aA X.args.length cA, .slice al2 X.labels.length cl2⟩], by omega, by go_num, ?_, ?_⟩
                · show _ = _
                  rw [List.map_append, hds.out, HTK.out, List.map_append, List.map_singleton, List.map_singleton, HX.out]
                · show Mem _ _ _
                  rw [nodesR_snoc, kidsR_snoc, hk]
                  exact HM5.out.push2
              case measure => simp [intOf]; omega
        · have e : L.take k = L := List.take_of_length_le (by omega)
          have hd := hds.out
          rw [e] at hd
          have HD := Tre.hid hd
          have q0 : wr.cell? ⟨w.heap.size + 1, 0, none⟩ = some (.slice aN ds.length cN) := hM.out.cell 4 rfl 0 rfl
          have q1 : wr.cell? ⟨w.heap.size + 1, 1, none⟩ = some (.int .i64 0) := hM.out.cell 4 rfl 1 rfl
          have q0f := hM.out.free 4 rfl 0
          have q1f := hM.out.free 4 rfl 1
          have M6 := (hM.out.setCell 4 rfl 0 (.slice aN ds.length cN)).setCell 4 rfl 1 (.int .i64 0)
          have HM6 := Tre.hid M6
          clear e hd hds M6
          go_wp2_with fail
          have z0 : ((wr.setCell ⟨w.heap.size + 1, 0, none⟩ (.slice aN ds.length cN)).setCell ⟨w.heap.size + 1, 1, none⟩ (.int .i64 0)).cell? ⟨w.heap.size + 1, 0, none⟩ = some (.slice aN ds.length cN) := HM6.out.cell 4 rfl 0 rfl
          have z1 : ((wr.setCell ⟨w.heap.size + 1, 0, none⟩ (.slice aN ds.length cN)).setCell ⟨w.heap.size + 1, 1, none⟩ (.int .i64 0)).cell? ⟨w.heap.size + 1, 1, none⟩ = some (.int .i64 0) := HM6.out.cell 4 rfl 1 rfl
          refine bodyPost_ret (v := .agg #[.slice aN ds.length cN, .int .i64 0]) (by simp [results, Try.results16, go_sem, z0, z1]) rfl ⟨_, ds, rfl, ?_, HM6.out.sub (by simp)⟩
          rw [HD.out]
          unfold Graph.trim
          rw [HL.out]
end Go.Proofs.Ytgngnkajjldnlaa.gr
