/- gen.general. Nodes of whatever memory, as values; slices of them that are copied. Rows of numbers whose contents are left open: what is written there changes nothing that is said. -/
import Derived.Test.YtlkfhbmjemjohaaDoorB12
import Derived.Deep.DeepCutAuto
import Derived.Laws.EntriesVeiled
import Derived.Test.YtlkfhbmjemjohaaDoorB07
import Derived.Test.YtlkfhbmjemjohaaDoorB10
import Derived.Test.YtlkfhbmjemjohaaDoorB09
namespace Go.Tre
/-- the first i nodes, and the first k arguments of number i, are laid back -/
structure BK (g : Tre.Graph) (l : List (Value × List Nat)) (i k : Nat) : Prop where
  len : l.length = g.ns.length
  mem : ∀ (y : Nat) (p : Value × List Nat), l[y]? = some p → ∀ x, x ∈ p.2 ↔ (x < i ∧ y ∈ g.kids x) ∨ (x = i ∧ y ∈ (g.kids i).take k)
  size : ∀ p ∈ l, p.2.length ≤ ((List.range i).map g.deg).sum + k
theorem BK.start (g : Tre.Graph) : BK g (List.replicate g.ns.length (.slice none 0 0, [])) 0 0 :=
  ⟨List.length_replicate, fun y p hp x => by
    have := List.eq_of_mem_replicate (List.mem_of_getElem? hp)
    rw [this]; simp, fun p hp => by rw [List.eq_of_mem_replicate hp]; simp⟩
theorem BK.step {g : Tre.Graph} {l : List (Value × List Nat)} {i k y : Nat} {v : Value} {xs : List Nat} (h : BK g l i k) (hk : (g.kids i)[k]? = some y) (hy : l[y]? = some (v, xs)) (v' : Value) : BK g (l.set y (v', xs ++ [i])) i (k + 1) := by
  have hyl := (List.getElem?_eq_some_iff.1 hy).1
  have htk : (g.kids i).take (k + 1) = (g.kids i).take k ++ [y] := by rw [List.take_add_one, hk]; rfl
  refine ⟨by rw [List.length_set]; exact h.len, fun z p hz x => ?_, fun p hp => ?_⟩
  · rw [htk]
    rw [List.getElem?_set] at hz
    by_cases e : y = z
    · subst e
      rw [if_pos rfl, if_pos hyl] at hz
      have := Option.some.inj hz
      subst this
      have h1 := h.mem y _ hy x
      simp only at h1 ⊢
      rw [List.mem_append, h1, List.mem_append, List.mem_singleton, List.mem_singleton]
      constructor
      · rintro ((h2 | h2) | rfl)
        · exact .inl h2
        · exact .inr ⟨h2.1, .inl h2.2⟩
        · exact .inr ⟨rfl, .inr rfl⟩
      · rintro (h2 | ⟨rfl, _⟩)
        · exact .inl (.inl h2)
        · exact .inr rfl
    · rw [if_neg e] at hz
      rw [h.mem z p hz x, List.mem_append, List.mem_singleton]
      simp only [show ¬ z = y from fun e' => e e'.symm, or_false]
  · rcases List.mem_or_eq_of_mem_set hp with hp | rfl
    · have := h.size p hp; omega
    · have := h.size _ (List.mem_of_getElem? hy)
      simp only [List.length_append, List.length_singleton] at this ⊢
      omega
theorem BK.next {g : Tre.Graph} {l : List (Value × List Nat)} {i k : Nat} (h : BK g l i k) (hk : k = (g.kids i).length) : BK g l (i + 1) 0 := by
  subst hk
  refine ⟨h.len, fun y p hp x => ?_, fun p hp => ?_⟩
  · rw [h.mem y p hp x, List.take_length]
    simp only [List.take_zero, List.not_mem_nil, and_false, or_false]
    constructor
    · rintro (⟨h1, h2⟩ | ⟨rfl, h2⟩)
      · exact ⟨by omega, h2⟩
      · exact ⟨by omega, h2⟩
    · rintro ⟨h1, h2⟩
      by_cases e : x = i
      · exact .inr ⟨e, by rw [← e]; exact h2⟩
      · exact .inl ⟨by omega, h2⟩
  · have := h.size p hp
    rw [List.range_succ, List.map_append, List.sum_append]
    simp only [List.map_cons, List.map_nil, List.sum_cons, List.sum_nil, g.kids_len] at this ⊢
    omega
theorem Graph.deg_sum (g : Tre.Graph) (i : Nat) (hi : i ≤ g.ns.length) : ((List.range i).map g.deg).sum ≤ g.weight := by
  rw [g.weight_range]
  have h1 : ∀ (l : List Nat), (l.map g.deg).sum ≤ (l.map fun i => (g.nd i).weight).sum := fun l => by
    induction l with
    | nil => simp
    | cons x r ih =>
      simp only [List.map_cons, List.sum_cons]
      have : g.deg x ≤ (g.nd x).weight := by show (g.nd x).args.length ≤ _; unfold Tre.Node.weight; omega
      omega
  refine Nat.le_trans (h1 _) ?_
  have e : List.range g.ns.length = List.range i ++ (List.range (g.ns.length - i)).map (i + ·) := by
    rw [← List.range_add]; congr 1; omega
  rw [e, List.map_append, List.sum_append]
  omega
/-- what the table says -/
def contOf (l : List (Value × List Nat)) (y : Nat) : List Nat := (l[y]?.map (·.2)).getD []
end Go.Tre
namespace Go.Proofs.YtlkfhbmjemjohaaDoor.gr
open Go.RowKit Go.Shelf Go.Maps Go.Tre lex
theorem infoIS : (Tryd.prog.info? 25).map (fun i => (i.zero, i.size, i.bytes)) = some (some (.slice none 0 0), 1, 24) := by kernel_rfl

set_option maxRecDepth 100000 in
set_option maxHeartbeats 8000000 in
theorem general_any (a : Option Addr) (ca : Nat) (g : Tre.Graph) (ag : Option Addr) (cg : Nat) (gl : List Nat) (w : World) (hg : NodesAt w a g.ns) (c0 : g.checkC = 0) (wg : g.weight ≤ 2097152) (hl : IntsAt w ag (gl.map fun k : Nat => (k : Int))) (hm : ∀ m ∈ gl, m < g.ns.length) (hll : gl.length ≤ 2097152) :
    Calls Tryd.prog 13 #[.agg #[.slice a g.ns.length ca, .int .i64 g.root], .slice ag gl.length cg] w fun e w' =>
      ∃ v, e = .returned v ∧ Mem w w' [rowR 4 1 v g.ns.length ((List.range g.ns.length).map fun i => .bool (g.leadB gl i))] := by
  have M := (Mem.nil w).allocR #[.slice a g.ns.length ca, .int .i64 g.root] 24
  have HG := Tre.hid hg
  have HL := Tre.hid hl
  have HM0 := Tre.hid M
  have C0 := Tre.hid c0
  have OG := Tre.hid (Graph.ok_of c0)
  have hgl := OG.out.len
  have HLM := Tre.hid hm
  have HDS := Tre.hid g.deg_sum
  obtain ⟨ji, K1, K2, K3, K4⟩ := info_parts infoI
  have L1 := Tre.hid K1
  have L2 := Tre.hid K2
  have L3 := Tre.hid K3
  have L4 := Tre.hid K4
  obtain ⟨ti, T1, T2, T3, T4⟩ := info_parts infoIS
  obtain ⟨ib, B1, B2, B3, B4⟩ := info_parts infoB
  obtain ⟨wm, hmk, hmo, hmg⟩ := run_make_full (P := Tryd.prog) (w.alloc (.cells #[.slice a g.ns.length ca, .int .i64 g.root] 24)) 0 68 25 ti _ 1 Tryd.underlying68 T1 T2 T3 .i64 .i64 g.ns.length (by rw [T4]; omega) (by unfold maxLen; omega) (Nat.zero_le _)
  have e9 : (madeCells (Value.slice none 0 0).cells (g.ns.length * 1)).toList = (List.replicate g.ns.length ((.slice none 0 0, []) : Value × List Nat)).map (·.1) := by
    rw [show (Value.slice none 0 0).cells = #[Value.slice none 0 0] from rfl, toList_madeCells_one, Nat.mul_one, List.map_replicate]
  rw [e9, heapSize_alloc] at hmo
  rw [heapSize_alloc] at hmk
  obtain ⟨bt, hbt⟩ : ∃ bt : Nat, w.heap.size + 1 = bt := ⟨_, rfl⟩
  rw [hbt] at hmo hmk
  have MV : Mem w wm [rowR 25 1 (.slice (some ⟨bt, 0, none⟩) g.ns.length g.ns.length) g.ns.length ((List.replicate g.ns.length ((.slice none 0 0, []) : Value × List Nat)).map (·.1)), cellsR w.heap.size 24 #[.slice a g.ns.length ca, .int .i64 g.root]] :=
    M.add hmg (rowR 25 1 _ g.ns.length _) hmo (fun b hb => by have : some bt = some b := hb; cases this; simp; omega)
  have HMV := Tre.hid (((MV.allocR #[.slice (some ⟨bt, 0, none⟩) g.ns.length g.ns.length] 68).front 1 rfl).addBack g.ns.length)
  obtain ⟨g0, g1⟩ := HMV.out.two 3 rfl
  have HB1 := Tre.hid B1
  have HB2 := Tre.hid B2
  have HB3 := Tre.hid B3
  have HB4 := Tre.hid B4
  clear hg hl M c0 hm K1 K2 K3 K4 T1 T2 T3 T4 B1 B2 B3 B4 hmo hmg MV e9
  go_enter Tryd.func13, Tryd.ntmps13
  go_wp2_with fail
  generalize hb5 : wm.heap.size = b5 at HMV ⊢
  generalize hwq : wm.alloc (.cells #[.slice (some ⟨bt, 0, none⟩) g.ns.length g.ns.length] 68) = wq at HMV g0 g1 ⊢
  clear hb5 hwq hmk hbt HM0
  go_loopw [21] (fun v21 wr => ∃ (i : Nat) (l : List (Value × List Nat)), i ≤ g.ns.length ∧ v21 = .int .i64 i ∧ Hid (BK g l i 0) ∧ Hid (Mem w wr [backR l, rowR 25 1 (.slice (some ⟨bt, 0, none⟩) g.ns.length g.ns.length) g.ns.length (l.map (·.1)), cellsR b5 68 #[.slice (some ⟨bt, 0, none⟩) g.ns.length g.ns.length], cellsR w.heap.size 24 #[.slice a g.ns.length ca, .int .i64 g.root]]))
    (fun v21 _ => g.ns.length - (intOf v21).toNat)
  case atStart => exact ⟨0, _, Nat.zero_le _, rfl, BK.start g, HMV.out⟩
  case round =>
    obtain ⟨i, l, hi, rfl, hBK, hR⟩ := hrel
    clear g0 g1
    by_cases hlt : i < g.ns.length
    · obtain ⟨b1, o1, rfl, nx⟩ := HG.out.at_ i (g.nd i) (by rw [Graph.nd_eq hlt]; exact List.getElem?_eq_getElem hlt)
      have hax := OG.out.kids_eq hlt
      have hkl := g.kids_len i
      have hkt := OG.out.kids_lt hlt
      have HKT := Tre.hid hkt
      have hds := HDS.out (i + 1) hlt
      rw [List.range_succ, List.map_append, List.sum_append] at hds
      simp only [List.map_cons, List.map_nil, List.sum_cons, List.sum_nil] at hds
      obtain ⟨ax, cx, lx, dx, x0, x1, x2, x3, x4, xA, xL, _, _⟩ := nx
      have hdl : (g.nd i).args.length = (g.kids i).length := by rw [hkl]; rfl
      have x0 := cell_below hR.out.below x0
      have x1 := cell_below hR.out.below x1
      have x2 := cell_below hR.out.below x2
      have x3 := cell_below hR.out.below x3
      have x4 := cell_below hR.out.below x4
      rw [hdl] at x2
      have XA : Hid (IntsAt w ax ((g.kids i).map fun k : Nat => (k : Int))) := by rw [← hax]; exact xA
      have hkl2 : ((List.range i).map g.deg).sum + (g.kids i).length ≤ 2097152 := by rw [hkl]; omega
      have MA := hR.out.alloc (.cells #[.int .i64 (g.nd i).kind, .string (g.nd i).name, .slice ax (g.kids i).length cx, .slice lx (g.nd i).labels.length dx, .bool (g.nd i).isOpen] 39)
      have HMA := Tre.hid MA
      obtain ⟨g0, g1⟩ := hR.out.two 3 rfl
      have i1 : (0 : Int) ≤ (i : Int) := by omega
      have i2 : (i : Int) < (g.ns.length : Int) := by omega
      generalize hS : ((List.range i).map g.deg).sum = S at *
      have HS := Tre.hid hS
      clear hax hkl hkt hds hdl xA xL MA hS
      go_wp2_with fail
      obtain ⟨wo, rfl⟩ : ∃ wo : World, wo = wr := ⟨_, rfl⟩
      go_loopw [29] (fun v29 wi => ∃ (k : Nat) (l : List (Value × List Nat)), k ≤ (g.kids i).length ∧ v29 = .int .i64 k ∧ Hid (BK g l i k) ∧ Hid (Mem w wi [backR l, rowR 25 1 (.slice (some ⟨bt, 0, none⟩) g.ns.length g.ns.length) g.ns.length (l.map (·.1)), cellsR b5 68 #[.slice (some ⟨bt, 0, none⟩) g.ns.length g.ns.length], cellsR w.heap.size 24 #[.slice (some ⟨b1, o1, none⟩) g.ns.length ca, .int .i64 g.root]]))
        (fun v29 _ => (g.kids i).length - (intOf v29).toNat)
      case atStart => exact ⟨0, l, Nat.zero_le _, rfl, hBK.out, HMA.out⟩
      case round =>
        obtain ⟨k, l, hk, rfl, hBK, hI⟩ := hrel
        by_cases hkl : k < (g.kids i).length
        · have hyl := HKT.out _ (List.getElem_mem hkl)
          have HKY : Hid ((g.kids i)[k]? = some (g.kids i)[k]) := List.getElem?_eq_getElem hkl
          obtain ⟨bx, ox, rfl, hcl⟩ := XA.out.at_ k (rk (g.kids i)[k]) (by rw [casts_map, List.getElem?_map, HKY.out]; rfl)
          have hcl2 : wr.cell? ⟨bx, ox + k, none⟩ = some (.int .i64 ((g.kids i)[k] : Int)) := cell_below hI.out.below hcl
          generalize (g.kids i)[k] = y at *
          obtain ⟨vy, xs, hpy⟩ : ∃ v xs, l[y]? = some (v, xs) := by
            have : y < l.length := by rw [hBK.out.len]; exact hyl
            exact ⟨l[y].1, l[y].2, List.getElem?_eq_getElem this⟩
          obtain ⟨ay, cy, rfl, _, _⟩ := row_read (hI.out.backRow 0 rfl hpy)
          have ty := hI.out.cellAt 1 rfl y (u := .slice ay xs.length cy) (by rw [List.getElem?_map, hpy]; rfl)
          have c5 : wr.cell? ⟨b5, 0, none⟩ = some (.slice (some ⟨bt, 0, none⟩) g.ns.length g.ns.length) := hI.out.cell 2 rfl 0 rfl
          have hxs : xs.length ≤ 2097152 := by have := hBK.out.size _ (List.mem_of_getElem? hpy); rw [HS.out] at this; simp only at this; omega
          have HPY := Tre.hid hpy
          have HBK2 := Tre.hid (fun v' => hBK.out.step HKY.out HPY.out v')
          have j1 : (0 : Int) ≤ (y : Int) := by omega
          have j2 : (y : Int) < (g.ns.length : Int) := by omega
          have l1 : (0 : Int) ≤ (k : Int) := by omega
          have l2 : (k : Int) < ((g.kids i).length : Int) := by omega
          clear hcl hpy
          go_upto_region 8 with fail
          refine wp_region_keep (S := (fun w' => w'.cell? ⟨b5, 0, none⟩ = some (.slice (some ⟨bt, 0, none⟩) g.ns.length g.ns.length) ∧ w'.cell? ⟨bt, y, none⟩ = some (.slice ay xs.length cy))) [10] (by kernel_rfl) ?_ (fun hH0 => ?_)
          · exact ⟨c5, ty⟩
          have H0 := Tre.hid hI.out.drew
          generalize hq : wr.drew = wq0 at H0 hH0 ⊢
          clear hq
          refine lPure (i := 1) (some 34) (v := ?_) (by rfl) (by kernel_rfl) (by kernel_rfl) (by kernel_rfl) (by kernel_rfl) (fun _ _ _ h => h) (by rfl) ?_ (keep_of hH0) ?_
          rotate_left
          · intro w; simp only [List.getElem?_toArray, List.getElem?_cons_succ, List.getElem?_cons_zero, Option.map_some, Option.some.injEq]; (first | (go_simp; done) | (go_simp; with_reducible rfl))
          try simp only [Act.put, List.setIfInBounds_toArray, List.set_cons_zero, List.set_cons_succ]
          refine lPure (i := 3) (some 36) (v := ?_) (by rfl) (by kernel_rfl) (by kernel_rfl) (by kernel_rfl) (by kernel_rfl) (fun _ _ _ h => h) (by rfl) ?_ (keep_of hH0) ?_
          rotate_left
          · intro w; simp only [List.getElem?_toArray, List.getElem?_cons_succ, List.getElem?_cons_zero, Option.map_some, Option.some.injEq]; (first | (go_simp; done) | (go_simp; with_reducible rfl))
          try simp only [Act.put, List.setIfInBounds_toArray, List.set_cons_zero, List.set_cons_succ]
          refine lPure (i := 6) (some 39) (v := ?_) (by rfl) (by kernel_rfl) (by kernel_rfl) (by kernel_rfl) (by kernel_rfl) (fun _ _ _ h => h) (by rfl) ?_ (keep_of hH0) ?_
          rotate_left
          · intro w; simp only [List.getElem?_toArray, List.getElem?_cons_succ, List.getElem?_cons_zero, Option.map_some, Option.some.injEq]; (first | (go_simp; done) | (go_simp; with_reducible rfl))
          try simp only [Act.put, List.setIfInBounds_toArray, List.set_cons_zero, List.set_cons_succ]
          refine lTake (i := 0) (some 33) (v := ?_) (by rfl) (by kernel_rfl) (by kernel_rfl) (by kernel_rfl) (by kernel_rfl) (by kernel_rfl) (fun _ _ _ h => h) (by rfl) ?_ hH0 ?_
          rotate_left
          · intro w hSw; (try dsimp only at hSw); simp only [List.getElem?_toArray, List.getElem?_cons_zero, Option.map_some, Option.some.injEq]; (first | (go_simp; done) | (go_simp; with_reducible rfl))
          try simp only [Act.put, List.setIfInBounds_toArray, List.set_cons_zero, List.set_cons_succ]
          refine lTake (i := 2) (some 35) (v := ?_) (by rfl) (by kernel_rfl) (by kernel_rfl) (by kernel_rfl) (by kernel_rfl) (by kernel_rfl) (fun _ _ _ h => h) (by rfl) ?_ hH0 ?_
          rotate_left
          · intro w hSw; (try dsimp only at hSw); simp only [List.getElem?_toArray, List.getElem?_cons_succ, List.getElem?_cons_zero, Option.map_some, Option.some.injEq]; (first | (go_simp; done) | (go_simp; with_reducible rfl))
          try simp only [Act.put, List.setIfInBounds_toArray, List.set_cons_zero, List.set_cons_succ]
          refine lPure (i := 4) (some 37) (v := ?_) (by rfl) (by kernel_rfl) (by kernel_rfl) (by kernel_rfl) (by kernel_rfl) (fun _ _ _ h => h) (by rfl) ?_ (keep_of hH0) ?_
          rotate_left
          · intro w; simp only [List.getElem?_toArray, List.getElem?_cons_succ, List.getElem?_cons_zero, Option.map_some, Option.some.injEq]; (first | (go_simp; done) | (go_simp; with_reducible rfl))
          try simp only [Act.put, List.setIfInBounds_toArray, List.set_cons_zero, List.set_cons_succ]
          refine lTake (i := 5) (some 38) (v := ?_) (by rfl) (by kernel_rfl) (by kernel_rfl) (by kernel_rfl) (by kernel_rfl) (by kernel_rfl) (fun _ _ _ h => h) (by rfl) ?_ hH0 ?_
          rotate_left
          · intro w hSw; (try dsimp only at hSw); simp only [List.getElem?_toArray, List.getElem?_cons_succ, List.getElem?_cons_zero, Option.map_some, Option.some.injEq]; (first | (go_simp; done) | (go_simp; with_reducible rfl))
          try simp only [Act.put, List.setIfInBounds_toArray, List.set_cons_zero, List.set_cons_succ]
          refine lOne 7 (by kernel_rfl) (LStep.op (fun K hK => ?_))
          go_simp
          have H1 := Tre.hid (H0.out.allocRow #[.int .i64 (i : Int)] 3 1 1 (by unfold maxLen; omega) rfl)
          generalize hb : wq0.heap.size = b40 at H1 ⊢
          generalize hw : wq0.alloc (.cells #[.int .i64 (i : Int)] 3) = wq1 at H1 ⊢
          clear hb hw
          refine hK.out _ _ ?_ (fun hH1 => ?_)
          · exact ⟨H1.out.cell 3 rfl 0 rfl, H1.out.cellAt 2 rfl y (by rw [List.getElem?_map, HPY.out]; rfl)⟩
          clear hK K hH0
          try simp only [Act.put, List.setIfInBounds_toArray, List.set_cons_zero, List.set_cons_succ]
          refine lOne 8 (by kernel_rfl) (LStep.op (fun K hK => ?_))
          simp only [List.getElem?_toArray, List.getElem?_cons_succ, List.getElem?_cons_zero]
          rw [if_pos (by rfl)]
          refine wp_append_row _ _ _ 25 (by rfl) 3 ji _ 1 8 Tryd.underlying25 L1.out L2.out L3.out L4.out rfl (by omega) (.slice ay xs.length cy) xs.length (xs.map rk) (by rfl) (H1.out.backRow 1 rfl HPY.out) (some ⟨b40, 0, none⟩) 1 1 [.int .i64 (i : Int)] (by rfl) ⟨rfl, fun j u hj => ⟨_, 0, rfl, by rw [Nat.zero_add]; exact H1.out.cellAt 0 rfl j hj⟩⟩ (by simp [Value.oneCell']) (by unfold maxLen; omega) (by omega) ?_
          intro v' wq2 hown4 hgrow4 hat4
          have hown5 : wq2.ownsRow 0 3 1 v' (xs ++ [i]).length ((xs ++ [i]).map rk) := by rw [List.length_append, List.length_singleton, List.map_append]; exact hown4
          obtain ⟨av, cv, rfl, _, _⟩ := row_read hown4
          have M4 := H1.out.backSet 1 rfl HPY.out hgrow4 hown5 hat4
          have H2 := Tre.hid M4
          clear M4 hown4 hown5 hgrow4 hat4
          (try dsimp only)
          refine hK.out _ _ ?_ (fun hH2 => ?_)
          · exact ⟨H2.out.cell 3 rfl 0 rfl, H2.out.cellAt 2 rfl y (by rw [List.getElem?_map, HPY.out]; rfl)⟩
          clear hK K hH1
          try simp only [Act.put, List.setIfInBounds_toArray, List.set_cons_zero, List.set_cons_succ]
          refine lPure (i := 9) (some 42) (v := ?_) (by rfl) (by kernel_rfl) (by kernel_rfl) (by kernel_rfl) (by kernel_rfl) (fun _ _ _ h => h) (by rfl) ?_ (keep_of hH2) ?_
          rotate_left
          · intro w; simp only [List.getElem?_toArray, List.getElem?_cons_succ, List.getElem?_cons_zero, Option.map_some, Option.some.injEq]; (first | (go_simp; done) | (go_simp; with_reducible rfl))
          try simp only [Act.put, List.setIfInBounds_toArray, List.set_cons_zero, List.set_cons_succ]
          refine lOne 10 (by kernel_rfl) (LFall.op (by kernel_rfl) (fun K hK => ?_))
          have f2 := H2.out.freeAt 2 rfl y
          have q2 := H2.out.cellAt 2 rfl y (u := .slice ay xs.length cy) (by rw [List.getElem?_map, HPY.out]; rfl)
          have H3 := Tre.hid (H2.out.setRow 2 rfl y (.slice av (xs.length + 1) cv))
          go_simp
          refine hK.out _ _ ?_
          clear hK K hH2
          try simp only [Act.put, List.setIfInBounds_toArray, List.set_cons_zero, List.set_cons_succ]
          refine lDone (by kernel_rfl) ?_
          have H8 := (H3.out.del 0)
          have e9 : (l.map (·.1)).set y (.slice av (xs.length + 1) cv) = (l.set y (.slice av (xs.length + 1) cv, xs ++ [i])).map (·.1) := by rw [List.map_set]
          have H9 : Mem w (wq2.setCell ⟨bt, y, none⟩ (.slice av (xs.length + 1) cv)) [backR (l.set y (.slice av (xs.length + 1) cv, xs ++ [i])), rowR 25 1 (.slice (some ⟨bt, 0, none⟩) g.ns.length g.ns.length) g.ns.length ((l.set y (.slice av (xs.length + 1) cv, xs ++ [i])).map (·.1)), cellsR b5 68 #[.slice (some ⟨bt, 0, none⟩) g.ns.length g.ns.length], cellsR w.heap.size 24 #[.slice (some ⟨b1, o1, none⟩) g.ns.length ca, .int .i64 g.root]] := by rw [← e9]; exact H8
          have HM9 := Tre.hid H9
          clear H8 e9 H9 q2 f2
          go_wp2_with fail
          go_roundw
          case rel => exact ⟨k + 1, l.set y (.slice av (xs.length + 1) cv, xs ++ [i]), by omega, by go_num, HBK2.out _, HM9.out⟩
          case measure => simp [intOf]; omega
        · have e : k = (g.kids i).length := by omega
          have HBN := Tre.hid (hBK.out.next e)
          clear e
          go_wp2_with fail
          go_roundw
          case rel => exact ⟨i + 1, l, by omega, by go_num, HBN.out, hI.out⟩
          case measure => simp [intOf]; omega
    · have e : i = g.ns.length := by omega
      subst e
      obtain ⟨g0, g1⟩ := hR.out.two 3 rfl
      have HKK : Hid (∀ y, y < g.ns.length → ∀ b ∈ contOf l y, b < g.ns.length ∧ y ∈ g.kids b) := fun y hy b hb => by
        have hyl : y < l.length := by rw [hBK.out.len]; exact hy
        unfold contOf at hb
        rw [List.getElem?_eq_getElem hyl] at hb
        have := (hBK.out.mem y _ (List.getElem?_eq_getElem hyl) b).1 hb
        simp only [List.take_zero, List.not_mem_nil, and_false, or_false] at this
        exact this
      have HKB : Hid (∀ y, y < g.ns.length → ∀ b, b < g.ns.length → y ∈ g.kids b → b ∈ contOf l y) := fun y hy b hb hk => by
        have hyl : y < l.length := by rw [hBK.out.len]; exact hy
        unfold contOf
        rw [List.getElem?_eq_getElem hyl]
        exact (hBK.out.mem y _ (List.getElem?_eq_getElem hyl) b).2 (.inl ⟨hb, hk⟩)
      have HCP : Hid (∀ (y : Nat) (p : Value × List Nat), l[y]? = some p → p.2 = contOf l y) := fun y p hp => by unfold contOf; rw [hp]; rfl
      have HSZ : Hid (∀ y, (contOf l y).length ≤ 4194304) := fun y => by
        unfold contOf
        cases hp : l[y]? with
        | none => simp
        | some p =>
          have h1 := hBK.out.size p (List.mem_of_getElem? hp)
          have h2 := HDS.out g.ns.length (Nat.le_refl _)
          simp only [Option.map_some, Option.getD_some]
          omega
      obtain ⟨w2, hmk2, hmo2, hmg2⟩ := run_make_full (P := Tryd.prog) wr 0 41 4 ib _ 1 Tryd.underlying41 HB1.out HB2.out HB3.out .i64 .i64 g.ns.length (by rw [HB4.out]; omega) (by unfold maxLen; omega) (Nat.zero_le _)
      rw [made_bools] at hmo2
      obtain ⟨bm, hbm⟩ : ∃ bm : Nat, wr.heap.size = bm := ⟨_, rfl⟩
      rw [hbm] at hmo2 hmk2
      have MB := hR.out.add hmg2 (rowR 4 1 (.slice (some ⟨bm, 0, none⟩) g.ns.length g.ns.length) g.ns.length (metL g [])) hmo2 (fun b hb => by have : some bm = some b := hb; cases this; omega)
      have MC := (MB.allocR #[.slice (some ⟨bm, 0, none⟩) g.ns.length g.ns.length] 41).allocR #[.nilFunc] 69
      rw [heapSize_alloc] at MC
      have n0 := MC.cell 0 rfl 0 rfl
      have nf := MC.free 0 rfl 0
      have MD := (MB.allocR #[.slice (some ⟨bm, 0, none⟩) g.ns.length g.ns.length] 41).allocR #[.func (.func 27) #[] (visitCaps w2.heap.size b5 (w2.heap.size + 1))] 69
      rw [heapSize_alloc] at MD
      have HMD := Tre.hid (((((((MD.front 0 rfl).front 5 rfl).front 2 rfl).front 5 rfl).front 5 rfl).front 5 rfl) )
      have hmz := hmg2.size
      clear hmo2 hmg2 MB MC MD
      go_wp2_with fail
      clear n0 nf hmk2 hbm hmz
      generalize hbo : w2.heap.size = bo at HMD ⊢
      generalize hb11 : bo + 1 = b11 at HMD ⊢
      generalize hwz : ((w2.alloc (.cells #[.slice (some ⟨bm, 0, none⟩) g.ns.length g.ns.length] 41)).alloc (.cells #[.func (.func 27) #[] (visitCaps bo b5 b11)] 69)) = wz at HMD ⊢
      clear hwz hb11 hbo g0 g1
      go_loopw [52] (fun v52 wi => ∃ (k : Nat) (V : List Nat), k ≤ gl.length ∧ v52 = .int .i64 k ∧ Hid (VL g (contOf l) [] (gl.take k) V) ∧ Hid (Mem w wi [rowR 4 1 (.slice (some ⟨bm, 0, none⟩) g.ns.length g.ns.length) g.ns.length (metL g V), backR l, rowR 25 1 (.slice (some ⟨bt, 0, none⟩) g.ns.length g.ns.length) g.ns.length (l.map (·.1)), cellsR bo 41 #[.slice (some ⟨bm, 0, none⟩) g.ns.length g.ns.length], cellsR b5 68 #[.slice (some ⟨bt, 0, none⟩) g.ns.length g.ns.length], cellsR b11 69 #[.func (.func 27) #[] (visitCaps bo b5 b11)], cellsR w.heap.size 24 #[.slice a g.ns.length ca, .int .i64 g.root]]))
        (fun v52 _ => gl.length - (intOf v52).toNat)
      case atStart => exact ⟨0, [], Nat.zero_le _, rfl, VL.nil List.nodup_nil (by simp), HMD.out⟩
      case round =>
        obtain ⟨k, V, hk, rfl, hVL, hI⟩ := hrel
        by_cases hkl : k < gl.length
        · have hxl := HLM.out _ (List.getElem_mem hkl)
          have HTS : Hid (gl.take (k + 1) = gl.take k ++ [gl[k]]) := take_snoc_n hkl
          obtain ⟨bx, ox, rfl, hcl⟩ := HL.out.at_ k (rk gl[k]) (by rw [casts_map, List.getElem?_map, List.getElem?_eq_getElem hkl]; rfl)
          have hcl2 : wr.cell? ⟨bx, ox + k, none⟩ = some (.int .i64 (gl[k] : Int)) := cell_below hI.out.below hcl
          generalize gl[k] = x at *
          have c11 : wr.cell? ⟨b11, 0, none⟩ = some (.func (.func 27) #[] (visitCaps bo b5 b11)) := hI.out.cell 5 rfl 0 rfl
          have CV := visitG g w bm bt bo b5 b11 l (contOf l) hBK.out.len HCP.out HKK.out HSZ.out _ x V wr [cellsR w.heap.size 24 #[.slice a g.ns.length ca, .int .i64 g.root]] (Nat.le_refl _) hxl hVL.out.nod hVL.out.lt hI.out
          have HCV := Tre.hid CV
          have l1 : (0 : Int) ≤ k := by omega
          have l2 : (k : Int) < gl.length := by omega
          clear hcl CV
          go_wp2_with fail
          refine HCV.out.mono ?_
          rintro e w5 ⟨v5, rfl, V2, hv2, m5⟩
          have HV2 := Tre.hid (hVL.out.snoc hv2)
          rw [← HTS.out] at HV2
          have HM6 := Tre.hid m5
          clear m5 hv2
          go_wp2_with fail
          go_roundw
          case rel => exact ⟨k + 1, V2, by omega, by go_num, HV2.out, HM6.out⟩
          case measure => simp [intOf]; omega
        · have hV := hVL.out
          rw [List.take_of_length_le (by omega)] at hV
          have co : wr.cell? ⟨bo, 0, none⟩ = some (.slice (some ⟨bm, 0, none⟩) g.ns.length g.ns.length) := hI.out.cell 3 rfl 0 rfl
          have HE : Hid (metL g V = (List.range g.ns.length).map fun i => .bool (g.leadB gl i)) := by
            show _ = _
            unfold metL
            refine List.map_congr_left (fun i hi => ?_)
            rw [hV.done OG.out HKB.out i (List.mem_range.1 hi)]
          clear hV
          go_wp2_with fail
          go_ret
          refine ⟨_, rfl, ?_⟩
          rw [← HE.out]
          exact hI.out.sub (by simp)
end Go.Proofs.YtlkfhbmjemjohaaDoor.gr
namespace Go.Proofs.YtlkfhbmjemjohaaDoor.gr
open Go.RowKit Go.Shelf Go.Maps Go.Tre lex
/-- a node's two slices read as its arguments and labels -/
def NodeVal (w : World) (d : NodeV) : Prop :=
  ∃ aa ca al cl, d.va = .slice aa d.n.args.length ca ∧ d.vl = .slice al d.n.labels.length cl ∧ IntsAt w aa d.n.args ∧ StrsAt w al d.n.labels ∧ d.n.args.length ≤ ca ∧ d.n.labels.length ≤ cl
theorem NodeVal.below {w w' : World} {d : NodeV} (h : NodeVal w d) (b : Below w.heap.size w w') : NodeVal w' d := by
  obtain ⟨aa, ca, al, cl, h1, h2, h3, h4, h5, h6⟩ := h
  exact ⟨aa, ca, al, cl, h1, h2, h3.below b, h4.below b, h5, h6⟩
theorem NodeVal.kids {w : World} {d : NodeV} (h : ∀ r ∈ kids d, r.P w) : NodeVal w d := by
  obtain ⟨aa, ca, ea, la, ra⟩ := row_read (h _ (by simp [gr.kids]) : (rowR 3 1 d.va d.n.args.length (d.n.args.map (Value.int .i64))).P w)
  obtain ⟨al, cl, el, ll, rl⟩ := row_read (h _ (by simp [gr.kids]) : (rowR 9 1 d.vl d.n.labels.length (d.n.labels.map Value.string)).P w)
  exact ⟨aa, ca, al, cl, ea, el, ra, rl, la, ll⟩
theorem nodeAt_of {w : World} {b p : Nat} {d : NodeV} (hv : NodeVal w d) (hc : ∀ j, j < 5 → w.cell? ⟨b, p + j, none⟩ = d.cells[j]?) : NodeAt w b p d.n := by
  obtain ⟨aa, ca, al, cl, ea, el, ra, rl, la, ll⟩ := hv
  refine ⟨aa, ca, al, cl, (hc 0 (by omega)).trans rfl, (hc 1 (by omega)).trans rfl, ?_, ?_, (hc 4 (by omega)).trans rfl, ra, rl, la, ll⟩
  · rw [← ea]; exact (hc 2 (by omega)).trans rfl
  · rw [← el]; exact (hc 3 (by omega)).trans rfl
theorem nodesAt_of {w : World} {a : Option Addr} {c : Nat} {ds : List NodeV} (h : (nodesR (.slice a ds.length c) ds).P w) (hv : ∀ d ∈ ds, NodeVal w d) : NodesAt w a (ds.map NodeV.n) := by
  refine ⟨fun k n hn => ?_⟩
  rw [List.getElem?_map] at hn
  obtain ⟨d, hd, rfl⟩ := Option.map_eq_some_iff.1 hn
  obtain ⟨a', c', e, _, hrow⟩ := row_read (show w.ownsRow 0 _ 5 (.slice a _ c) _ _ from h)
  cases e
  obtain ⟨b, off, e0, _⟩ := hrow.at_ (k * 5 + 0) _ ((cells_at ds k 0 d hd (by omega)).trans rfl)
  refine ⟨b, off, e0, nodeAt_of (hv d (List.mem_of_getElem? hd)) (fun j hj => ?_)⟩
  have hl : j < d.cells.length := hj
  obtain ⟨b', off', e', c'⟩ := hrow.at_ (k * 5 + j) d.cells[j] ((cells_at ds k j d hd hj).trans (List.getElem?_eq_getElem hl))
  rw [e0] at e'
  cases e'
  rw [Nat.add_assoc, c', List.getElem?_eq_getElem hl]
/-- whatever nodes there are: their values -/
theorem nodes_vals {w : World} {b off : Nat} {ns : List Tre.Node} (h : NodesAt w (some ⟨b, off, none⟩) ns) :
    ∃ ds : List NodeV, ds.map NodeV.n = ns ∧ (∀ j u, (ds.flatMap NodeV.cells)[j]? = some u → w.cell? ⟨b, off + j, none⟩ = some u) ∧ ∀ d ∈ ds, NodeVal w d := by
  have step : ∀ (k : Nat) (n : Tre.Node), ns[k]? = some n → ∃ d : NodeV, d.n = n ∧ NodeVal w d ∧ ∀ j, j < 5 → w.cell? ⟨b, off + k * 5 + j, none⟩ = d.cells[j]? := by
    intro k n hn
    obtain ⟨b', off', e, aa, ca, al, cl, h0, h1, h2, h3, h4, h5, h6, h7, h8⟩ := h.at_ k n hn
    cases e
    refine ⟨⟨n, .slice aa n.args.length ca, .slice al n.labels.length cl⟩, rfl, ⟨aa, ca, al, cl, rfl, rfl, h5, h6, h7, h8⟩, fun j hj => ?_⟩
    match j, hj with
    | 0, _ => exact h0
    | 1, _ => exact h1
    | 2, _ => exact h2
    | 3, _ => exact h3
    | 4, _ => exact h4
  have all : ∀ m, m ≤ ns.length → ∃ ds : List NodeV, ds.map NodeV.n = ns.take m ∧ (∀ k d, ds[k]? = some d → ∀ j, j < 5 → w.cell? ⟨b, off + k * 5 + j, none⟩ = d.cells[j]?) ∧ ∀ d ∈ ds, NodeVal w d := by
    intro m
    induction m with
    | zero => intro _; exact ⟨[], by simp, by simp, by simp⟩
    | succ m ih =>
      intro hm
      obtain ⟨ds, h1, h2, h3⟩ := ih (by omega)
      obtain ⟨d, e, hv, hc⟩ := step m ns[m] (List.getElem?_eq_getElem (by omega))
      have hl : ds.length = m := by have := congrArg List.length h1; simp at this; omega
      refine ⟨ds ++ [d], ?_, fun k d' hk j hj => ?_, fun d' hd' => ?_⟩
      · rw [List.map_append, h1, List.take_add_one, List.getElem?_eq_getElem (by omega), List.map_singleton, e]; rfl
      · by_cases hkl : k < ds.length
        · rw [List.getElem?_append_left hkl] at hk
          exact h2 k d' hk j hj
        · have hkm : k = m := by
            have := (List.getElem?_eq_some_iff.1 hk).1
            simp at this
            omega
          subst hkm
          rw [List.getElem?_append_right (by omega), hl, Nat.sub_self] at hk
          cases hk
          exact hc j hj
      · rcases List.mem_append.1 hd' with h | h
        · exact h3 d' h
        · simp at h; subst h; exact hv
  obtain ⟨ds, h1, h2, h3⟩ := all ns.length (Nat.le_refl _)
  refine ⟨ds, by rw [h1, List.take_length], fun j u hu => ?_, h3⟩
  have hj := (List.getElem?_eq_some_iff.1 hu).1
  rw [cells_len] at hj
  have hk : j / 5 < ds.length := by omega
  have hd : ds[j / 5]? = some ds[j / 5] := List.getElem?_eq_getElem hk
  have e : j = j / 5 * 5 + j % 5 := by omega
  rw [e] at hu ⊢
  rw [cells_at ds (j / 5) (j % 5) _ hd (by omega)] at hu
  rw [← Nat.add_assoc]
  exact (h2 _ _ hd _ (by omega)).trans hu
theorem cells_one (ds : List NodeV) : (∀ d ∈ ds, ∃ w, NodeVal w d) → ∀ u ∈ ds.flatMap NodeV.cells, u.oneCell' = true := by
  intro h u hu
  obtain ⟨d, hd, hu⟩ := List.mem_flatMap.1 hu
  obtain ⟨w, aa, ca, al, cl, e1, e2, _⟩ := h d hd
  simp only [NodeV.cells, List.mem_cons, List.not_mem_nil, or_false] at hu
  rcases hu with rfl | rfl | rfl | rfl | rfl
  · rfl
  · rfl
  · rw [e1]; rfl
  · rw [e2]; rfl
  · rfl
theorem add_plain (b off j : Nat) : (⟨b, off, none⟩ : Addr).add j = ⟨b, off + j, none⟩ := by
  unfold Addr.add
  by_cases h : j = 0 <;> simp [h]
end Go.Proofs.YtlkfhbmjemjohaaDoor.gr
namespace Go.Tre
theorem set_same {α : Type} {l : List α} {i : Nat} {x : α} (h : l[i]? = some x) : l.set i x = l := by
  apply List.ext_getElem?
  intro m
  rw [List.getElem?_set]
  split
  · rename_i e
    subst e
    rw [if_pos (List.getElem?_eq_some_iff.1 h).1, h]
  · rfl
end Go.Tre
namespace Go.Proofs.YtlkfhbmjemjohaaDoor.gr
open Go.RowKit Go.Shelf Go.Maps Go.Tre lex
def loosR (l : List (Value × Nat)) : Res where
  own b := ∃ p ∈ l, p.1.ownBlock = some b
  P w := ∀ p ∈ l, ∃ xs, w.ownsRow 0 3 1 p.1 p.2 xs
  stable w w' h hs := fun p hp => by
    obtain ⟨xs, hx⟩ := h p hp
    exact ⟨xs, (rowR 3 1 p.1 p.2 xs).stable w w' hx (fun b hb => hs b ⟨p, hp, hb⟩)⟩
  has w h b hb := by
    obtain ⟨p, hp, hb⟩ := hb
    obtain ⟨xs, hx⟩ := h p hp
    exact (rowR 3 1 p.1 p.2 xs).has w hx b hb
def argsL (ds : List NodeV) : List (Value × Nat) := ds.map fun d => (d.va, d.n.args.length)
theorem _root_.Go.Tre.Mem.loosen {w0 w : World} {rs : List Res} {ds : List NodeV} (h : Mem w0 w rs) (i : Nat) (hi : rs[i]? = some (kidsR ds)) : Mem w0 w (rs.set i (loosR (argsL ds))) :=
  h.as_ i hi _ (fun hp p hp' => by
    obtain ⟨d, hd, rfl⟩ := List.mem_map.1 hp'
    exact ⟨_, hp (rowR 3 1 d.va d.n.args.length (d.n.args.map (Value.int .i64))) (List.mem_flatMap.2 ⟨d, hd, by simp [kids]⟩)⟩) (fun b hb => by
    obtain ⟨p, hp', hb⟩ := hb
    obtain ⟨d, hd, rfl⟩ := List.mem_map.1 hp'
    exact ⟨rowR 3 1 d.va d.n.args.length (d.n.args.map (Value.int .i64)), List.mem_flatMap.2 ⟨d, hd, by simp [kids]⟩, hb⟩)
theorem _root_.Go.Tre.Mem.loosAt {w0 w : World} {rs : List Res} {l : List (Value × Nat)} {v : Value} {n j : Nat} (h : Mem w0 w rs) (i : Nat) (hi : rs[i]? = some (loosR l)) (hp : (v, n) ∈ l) (hj : j < n) :
    ∃ g cap u, v = .slice (some ⟨g, 0, none⟩) n cap ∧ w.cell? ⟨g, j, none⟩ = some u ∧ w.frozen? ⟨g, j, none⟩ = false := by
  obtain ⟨xs, hx⟩ := h.at_ i hi (v, n) hp
  simp only at hx
  cases n with
  | zero => omega
  | succ n =>
    obtain ⟨g, cap, rfl⟩ := ownsRow_succ hx
    have hl := hx.1
    exact ⟨g, cap, xs[j]'(by omega), rfl, by rw [hx.cellAt j (by omega), List.getElem?_eq_getElem], hx.frozenAt j⟩
theorem _root_.Go.Tre.Mem.loosVal {w0 w : World} {rs : List Res} {l : List (Value × Nat)} {v : Value} {n : Nat} (h : Mem w0 w rs) (i : Nat) (hi : rs[i]? = some (loosR l)) (hp : (v, n) ∈ l) : ∃ a cap, v = .slice a n cap ∧ n ≤ cap := by
  obtain ⟨xs, hx⟩ := h.at_ i hi (v, n) hp
  obtain ⟨a, c, e, hc, _⟩ := row_read hx
  exact ⟨a, c, e, hc⟩
theorem _root_.Go.Tre.Mem.loosSet {w0 w : World} {rs : List Res} {l : List (Value × Nat)} {n g cap : Nat} (h : Mem w0 w rs) (i : Nat) (hi : rs[i]? = some (loosR l)) (hp : (.slice (some ⟨g, 0, none⟩) n cap, n) ∈ l) (j : Nat) (u : Value) : Mem w0 (w.setCell ⟨g, j, none⟩ u) rs := by
  have hP := h.at_ i hi
  have := h.set_row i hi (grown_set w g j u) (fun k e => ⟨_, hp, by cases e; rfl⟩) (loosR l) (fun p hp' => by
    obtain ⟨xs, hx⟩ := hP p hp'
    by_cases e : p.1.ownBlock = some g
    · obtain ⟨v, m⟩ := p
      rcases hx.2 with ⟨e2, _⟩ | ⟨g', cap', cur, e2, _⟩
      · simp only at e2 e; subst e2; cases e
      · simp only at e2 e hx; subst e2; cases e
        exact ⟨_, (hx.stored j u).1⟩
    · exact ⟨xs, (rowR 3 1 p.1 p.2 xs).stable w _ hx (fun b hb => Below.heap_setCell w ⟨g, j, none⟩ u b (fun e' => e (by
        have hb' : p.1.ownBlock = some b := hb
        rw [hb', e'])))⟩) (fun b hb => .inl hb)
  rwa [set_same hi] at this
/-- nodes of whatever memory, as a row -/
theorem nodes_row {w : World} {a : Option Addr} {ns : List Tre.Node} (h : NodesAt w a ns) : ∃ ds : List NodeV, ds.map NodeV.n = ns ∧ Row w 5 a ns.length (ds.flatMap NodeV.cells) ∧ ∀ d ∈ ds, NodeVal w d := by
  cases hl : ns with
  | nil => subst hl; exact ⟨[], rfl, ⟨rfl, fun j u hu => by simp at hu⟩, by simp⟩
  | cons n r =>
    obtain ⟨b, off, rfl, _⟩ := h.at_ 0 n (by rw [hl]; rfl)
    obtain ⟨ds, h1, h2, h3⟩ := nodes_vals h
    rw [hl] at h1
    exact ⟨ds, h1, ⟨by rw [cells_len, ← h1, List.length_map], fun j u hu => ⟨b, off, rfl, h2 j u hu⟩⟩, h3⟩
end Go.Proofs.YtlkfhbmjemjohaaDoor.gr
