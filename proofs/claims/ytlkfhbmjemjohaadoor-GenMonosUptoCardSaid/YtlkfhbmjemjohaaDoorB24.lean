/- GenMonos: the walk. -/
import Derived.Test.YtlkfhbmjemjohaaDoorB16
import Derived.Test.YtlkfhbmjemjohaaDoorB23
import Derived.Test.YtlkfhbmjemjohaaDoorB11
import Derived.Deep.DeepCutAuto
namespace Go.Tre
theorem bigs_small (l : List ByteArray) (h : (l.map big).sum ≤ 300) : (l.map fun s => s.size + 1).sum ≤ 1001 * l.length := by
  induction l with
  | nil => simp
  | cons s r ih =>
    simp only [List.map_cons, List.sum_cons, List.length_cons] at h ⊢
    have h1 : s.size ≤ 1000 := by
      have hb : big s ≤ 300 := by omega
      unfold big at hb
      split at hb <;> omega
    have := ih (by omega)
    omega
theorem great_weight {g : Tre.Graph} (h : g.great ≤ 300) : g.weight ≤ 300300 := by
  have go : ∀ ns : List Tre.Node, (ns.map Node.great).sum ≤ 300 → (ns.map Node.weight).sum ≤ 1001 * (ns.length + (ns.map Node.great).sum) := by
    intro ns
    induction ns with
    | nil => intro _; simp
    | cons n r ih =>
      intro h
      simp only [List.map_cons, List.sum_cons, List.length_cons] at h ⊢
      have h2 := ih (by omega)
      have h3 : n.great ≤ 300 := by omega
      have h6 : n.weight ≤ 1001 + 1001 * n.great := by
        unfold Node.great at h3 ⊢
        unfold Node.weight
        have h4 := bigs_small n.labels (by omega)
        have h5 : n.name.size ≤ 1000 := by
          have hb : big n.name ≤ 300 := by omega
          unfold big at hb
          split at hb <;> omega
        omega
      omega
  unfold Graph.great at h
  have := go g.ns (by omega)
  unfold Graph.weight
  omega

/-- how nodes are marked: fixed 1, generic 2 -/
def markM (F G : List Nat) : Nat → Option Nat := fun i => if i ∈ F then some 1 else if i ∈ G then some 2 else none
theorem markM_nil : markM [] [] = fun _ => none := by funext i; simp [markM]
theorem markM_fixed {F : List Nat} (hn : F.Nodup) {k : Nat} (h : k < F.length) : markM (F.take k) [] F[k] = none ∧ upd (markM (F.take k) []) F[k] 1 = markM (F.take (k + 1)) [] := by
  have hno : F[k] ∉ F.take k := fun e => by
    obtain ⟨i, hi, e2⟩ := List.getElem_of_mem e
    rw [List.getElem_take] at e2
    have hik : i < k := by rw [List.length_take] at hi; omega
    have h1 := idxOf_nodup hn (k := i) (by omega)
    rw [e2, idxOf_nodup hn h] at h1
    omega
  refine ⟨by simp [markM, hno], ?_⟩
  funext i
  unfold upd markM
  rw [take_snoc_n h]
  by_cases hi : i = F[k]
  · subst hi
    rw [if_pos rfl, if_pos (List.mem_append.2 (.inr (List.mem_singleton.2 rfl)))]
  · have : (i ∈ F.take k ++ [F[k]]) = (i ∈ F.take k) := propext ⟨fun h => (List.mem_append.1 h).elim id (fun h => absurd (List.mem_singleton.1 h) hi), fun h => List.mem_append.2 (.inl h)⟩
    rw [if_neg hi]; simp only [this]
theorem markM_generic {F G : List Nat} (hn : G.Nodup) (ha : ∀ i ∈ F, i ∉ G) {k : Nat} (h : k < G.length) : markM F (G.take k) G[k] = none ∧ upd (markM F (G.take k)) G[k] 2 = markM F (G.take (k + 1)) := by
  have hno : G[k] ∉ G.take k := fun e => by
    obtain ⟨i, hi, e2⟩ := List.getElem_of_mem e
    rw [List.getElem_take] at e2
    have hik : i < k := by rw [List.length_take] at hi; omega
    have h1 := idxOf_nodup hn (k := i) (by omega)
    rw [e2, idxOf_nodup hn h] at h1
    omega
  have hf : G[k] ∉ F := fun e => ha _ e (List.getElem_mem h)
  refine ⟨by simp [markM, hno, hf], ?_⟩
  funext i
  unfold upd markM
  rw [take_snoc_n h]
  by_cases hi : i = G[k]
  · subst hi
    rw [if_pos rfl, if_neg hf, if_pos (List.mem_append.2 (.inr (List.mem_singleton.2 rfl)))]
  · have : (i ∈ G.take k ++ [G[k]]) = (i ∈ G.take k) := propext ⟨fun h => (List.mem_append.1 h).elim id (fun h => absurd (List.mem_singleton.1 h) hi), fun h => List.mem_append.2 (.inl h)⟩
    rw [if_neg hi]; simp only [this]
theorem fixed_nodup (g : Tre.Graph) (mono : List Nat) : (g.fixedL mono).Nodup := List.Nodup.sublist List.filter_sublist List.nodup_range
theorem generic_nodup (g : Tre.Graph) (mono : List Nat) : (g.genericL mono).Nodup := List.Nodup.sublist List.filter_sublist List.nodup_range
theorem fixed_lt {g : Tre.Graph} {mono : List Nat} {i : Nat} (h : i ∈ g.fixedL mono) : i < g.ns.length := List.mem_range.1 (List.mem_filter.1 h).1
theorem generic_lt {g : Tre.Graph} {mono : List Nat} {i : Nat} (h : i ∈ g.genericL mono) : i < g.ns.length := List.mem_range.1 (List.mem_filter.1 h).1
theorem least_weight (g : Tre.Graph) : g.leastG.weight ≤ g.weight := by
  have h1 := Graph.trim_weight g.quotG
  have h2 : g.quotG.weight = g.weight := by
    unfold Graph.weight Graph.quotG
    simp only [List.map_map]
    congr 1
    apply List.map_congr_left
    intro n _
    simp [Node.weight, clsNode]
  unfold Graph.leastG
  omega
end Go.Tre
namespace Go.Proofs.YtlkfhbmjemjohaaDoor.gr
open Go.RowKit Go.Shelf Go.Maps Go.Tre lex
set_option maxRecDepth 100000 in
set_option maxHeartbeats 8000000 in
theorem monosLaw_no (ca : Nat) (a : Option Addr) (g : Tre.Graph) (am : Option Addr) (cm : Nat) (mono : List Int) (w : World) (hg : NodesAt w a g.ns) (wg : g.weight ≤ 1048576) (hl : IntsAt w am mono) (hm : MaxAt w) (hc : ¬ g.monoC mono = 0) :
    Calls Tryd.prog 3 #[.agg #[.slice a g.ns.length ca, .int .i64 g.root], .slice am mono.length cm] w fun e w' => e = .returned (.bool true) ∧ Below w.heap.size w w' := by
  have M := (Mem.nil w).allocR #[.slice a g.ns.length ca, .int .i64 g.root] 24
  have HM := Tre.hid hm
  have HG := Tre.hid hg
  have HL := Tre.hid hl
  have HM0 := Tre.hid M
  have CGD := fun W (h : Below w.heap.size w W) => good_any a ca g am mono.length cm 300 W (by omega) (hg.below h)
  have HGD := Tre.hid CGD
  clear hg hl hm M CGD
  go_enter Tryd.func3, Tryd.ntmps3
  go_wp2_with fail
  refine (alive13 _ (HM.out.below HM0.out.below)).mono ?_
  rintro e w1 ⟨rfl, b1'⟩
  have M1 := HM0.out.quiet b1'
  obtain ⟨g0, g1⟩ := M1.two 0 rfl
  have HM1 := Tre.hid M1
  clear M1 b1'
  go_wp2_with fail
  cases hgd : (decide ((g.great : Int) ≤ 300) && decide ((mono.length : Int) ≤ 60))
  · have CGD := HGD.out w1 HM1.out.below
    rw [hgd] at CGD
    refine CGD.mono ?_
    rintro e w2 ⟨rfl, b2⟩
    have HM2 := Tre.hid (HM1.out.quiet b2)
    clear b2 CGD hgd
    go_wp2_with fail
    go_ret
    exact ⟨rfl, HM2.out.below⟩
  have CGD := HGD.out w1 HM1.out.below
  rw [hgd] at CGD
  rw [Bool.and_eq_true, decide_eq_true_eq, decide_eq_true_eq] at hgd
  have hgl : g.ns.length ≤ 300 := by have := g.great_len; omega
  have hml : mono.length ≤ 60 := by omega
  have hgr : g.great ≤ 300 := by omega
  have hgw := great_weight hgr
  clear hgd hgr
  refine CGD.mono ?_
  rintro e w2 ⟨rfl, b2⟩
  clear g0 g1 CGD
  have M2 := HM1.out.quiet b2
  obtain ⟨g0, g1⟩ := M2.two 0 rfl
  have HM2 := Tre.hid M2
  clear M2 b2
  have HCF := Tre.hid (fresh_no a ca g am cm mono w2 (HG.out.below HM2.out.below) (by omega) (HL.out.below HM2.out.below) (by omega) (HM.out.below HM2.out.below) hc)
  have u0 : (g.monoC mono != 0) = true := by simp [hc]
  clear hc
  go_wp2_with fail
  refine HCF.out.mono ?_
  rintro e w3 ⟨rfl, b3⟩
  have HM3 := Tre.hid (HM2.out.quiet b3)
  clear b3
  go_wp2_with fail
  go_ret
  exact ⟨rfl, (HM3.out.alloc _).below⟩

set_option maxRecDepth 100000 in
set_option maxHeartbeats 16000000 in
theorem monosLaw_ok (b1 o1 ca : Nat) (g : Tre.Graph) (am : Option Addr) (cm : Nat) (mn : List Nat) (w : World) (hg : NodesAt w (some ⟨b1, o1, none⟩) g.ns) (wg : g.weight ≤ 1048576) (hl : IntsAt w am (mn.map fun k : Nat => (k : Int))) (hm : MaxAt w) (ht : TabAt w) (c0 : g.checkC = 0) (hlm : ∀ m ∈ mn, m < g.ns.length) :
    Calls Tryd.prog 3 #[.agg #[.slice (some ⟨b1, o1, none⟩) g.ns.length ca, .int .i64 g.root], .slice am mn.length cm] w fun e w' => e = .returned (.bool true) ∧ Below w.heap.size w w' := by
  have C0 := Tre.hid c0
  have HLM := Tre.hid hlm
  have OG := Tre.hid (Graph.ok_of c0)
  have M := (Mem.nil w).allocR #[.slice (some ⟨b1, o1, none⟩) g.ns.length ca, .int .i64 g.root] 24
  have HM := Tre.hid hm
  have HT := Tre.hid ht
  have HG := Tre.hid hg
  have HL := Tre.hid hl
  have HM0 := Tre.hid M
  have CGD := fun W (h : Below w.heap.size w W) => good_any (some ⟨b1, o1, none⟩) ca g am mn.length cm 300 W (by omega) (hg.below h)
  have HGD := Tre.hid CGD
  clear hg hl hm ht M CGD c0 hlm
  go_enter Tryd.func3, Tryd.ntmps3
  go_wp2_with fail
  refine (alive13 _ (HM.out.below HM0.out.below)).mono ?_
  rintro e w1 ⟨rfl, b1'⟩
  have M1 := HM0.out.quiet b1'
  obtain ⟨g0, g1⟩ := M1.two 0 rfl
  have HM1 := Tre.hid M1
  clear M1 b1'
  go_wp2_with fail
  cases hgd : (decide ((g.great : Int) ≤ 300) && decide ((mn.length : Int) ≤ 60))
  · have CGD := HGD.out w1 HM1.out.below
    rw [hgd] at CGD
    refine CGD.mono ?_
    rintro e w2 ⟨rfl, b2⟩
    have HM2 := Tre.hid (HM1.out.quiet b2)
    clear b2 CGD hgd
    go_wp2_with fail
    go_ret
    exact ⟨rfl, HM2.out.below⟩
  have CGD := HGD.out w1 HM1.out.below
  rw [hgd] at CGD
  rw [Bool.and_eq_true, decide_eq_true_eq, decide_eq_true_eq] at hgd
  have hgl : g.ns.length ≤ 300 := by have := g.great_len; omega
  have hml : mn.length ≤ 60 := by omega
  have hgr : g.great ≤ 300 := by omega
  have hgw := great_weight hgr
  clear hgd hgr
  refine CGD.mono ?_
  rintro e w2 ⟨rfl, b2⟩
  clear g0 g1 CGD
  have M2 := HM1.out.quiet b2
  obtain ⟨g0, g1⟩ := M2.two 0 rfl
  have HM2 := Tre.hid M2
  clear M2 b2
  have hcl := copies_len_le g mn
  have hfw := fresh_weight g mn
  have hflen : (g.freshG mn).ns.length = g.ns.length + (g.copiesL mn).length := Graph.fresh_len
  have hs : g.ns.length + (g.copiesL mn).length ≤ 1048576 := by omega
  have CFK := Tre.hid (Graph.fresh_check (mono := mn) C0.out hs)
  have HSM := Tre.hid (fresh_same_mono C0.out HLM.out hs)
  have HHM := Tre.hid ((fresh_hom C0.out HLM.out).comp (least_hom CFK.out))
  have HLM2 : Hid (∀ m ∈ mn, m < (g.freshG mn).ns.length) := fun m h => by have := HLM.out m h; omega
  have HFO : Hid (∀ i ∈ (g.freshG mn).freeL, i < g.ns.length → i ∈ g.fixedL mn) := fun i hi hn => (fresh_old_free C0.out HLM.out hs hi hn).1
  have hc2 := copies_len_le (g.freshG mn) mn
  have hs2 : (g.freshG mn).ns.length + ((g.freshG mn).copiesL mn).length ≤ 1048576 := by omega
  have HSM2 := Tre.hid (fresh_same_mono CFK.out HLM2.out hs2)
  have hfw2 := fresh_weight (g.freshG mn) mn
  have HCF := Tre.hid (fresh_ok (some ⟨b1, o1, none⟩) ca g am cm mn w2 (HG.out.below HM2.out.below) C0.out (by omega) (HL.out.below HM2.out.below) HLM.out (by omega) (HM.out.below HM2.out.below) hs)
  have HGL : Hid (∀ i, i ∈ g.freeL → i ∈ g.fixedL mn ∨ i ∈ g.genericL mn) := fun i hi => free_sorted C0.out HLM.out hi
  have HAP : Hid (∀ i ∈ g.fixedL mn, i ∉ g.genericL mn) := fun i hi => sorted_apart OG.out HLM.out hi
  have hlw := least_weight (g.freshG mn)
  have HLFT : Hid (left g (g.freshG mn).leastG (fun _ => none) ≤ 4398046511104) := by
    have h1 := left_le g (g.freshG mn).leastG
    have h2 := len_weight (g.freshG mn).leastG
    have h3 : g.weight * (g.freshG mn).leastG.ns.length ≤ 2097152 * 2097152 := Nat.mul_le_mul (by omega) (by omega)
    show _ ≤ _
    omega
  have hf1 : (g.fixedL mn).length ≤ g.ns.length := by have h := List.length_filter_le (fun i => freeB (g.nd i) && g.markB mn i) (List.range g.ns.length); rw [List.length_range] at h; exact h
  have hf2 : (g.genericL mn).length ≤ g.ns.length := by have h := List.length_filter_le (fun i => freeB (g.nd i) && (!g.markB mn i && g.markB [g.root.toNat] i)) (List.range g.ns.length); rw [List.length_range] at h; exact h
  have hf3 : g.freeL.length ≤ g.weight := by have h1 : g.freeL.length ≤ g.reachL.length := List.length_filter_le ..; have h2 := g.reach_len; omega
  have hf4 : (g.freshG mn).freeL.length ≤ (g.freshG mn).weight := by have h1 : (g.freshG mn).freeL.length ≤ (g.freshG mn).reachL.length := List.length_filter_le ..; have h2 := (g.freshG mn).reach_len; omega
  clear hs hs2 hlw
  generalize hf : g.freshG mn = f at *
  clear hf
  go_wp2_with fail
  refine HCF.out.mono ?_
  rintro e w4 ⟨vF, ds, rfl, hds, m4⟩
  have M4 := HM2.out.call m4
  obtain ⟨aF, cF, rfl, _⟩ := M4.val 0 rfl
  have HLN : Hid (f.ns.length = ds.length) := by show _ = _; rw [← hds, List.length_map]
  have HDS := Tre.hid hds
  have M5 := M4.allocR #[.slice aF ds.length cF, .int .i64 f.root] 24
  obtain ⟨b5, hb5⟩ : ∃ b5 : Nat, w4.heap.size = b5 := ⟨_, rfl⟩
  rw [hb5] at M5
  obtain ⟨w5, hw5⟩ : ∃ w5 : World, w4.alloc (.cells #[.slice aF ds.length cF, .int .i64 f.root] 24) = w5 := ⟨_, rfl⟩
  rw [hw5] at M5
  obtain ⟨g0, g1⟩ := M5.two 3 rfl
  have HM5 := Tre.hid M5
  clear m4 M4 M5 hds
  go_wp2_with fail
  clear hb5 hw5
  refine (fixed_ok (some ⟨b1, o1, none⟩) ca g am cm mn w5 (HG.out.below HM5.out.below) C0.out (by omega) (HL.out.below HM5.out.below) HLM.out (by omega) (HM.out.below HM5.out.below)).mono ?_
  rintro e w6 ⟨vx, rfl, m6⟩
  have M6 := HM5.out.call m6
  obtain ⟨ax, cx, rfl, _⟩ := M6.val 0 rfl
  obtain ⟨g0, g1⟩ := M6.two 4 rfl
  have HM6 := Tre.hid M6
  clear m6 M6
  go_wp2_with fail
  refine (generic_ok (some ⟨b1, o1, none⟩) ca g am cm mn w6 (HG.out.below HM6.out.below) C0.out (by omega) (HL.out.below HM6.out.below) HLM.out (by omega) (HM.out.below HM6.out.below)).mono ?_
  rintro e w7 ⟨vy, rfl, m7⟩
  have M7 := HM6.out.call m7
  obtain ⟨ay, cy, rfl, _⟩ := M7.val 0 rfl
  have M8 := M7.allocMap Tryd.prog 3 en en
  have HM8 := Tre.hid M8
  have hmm := @run_makeMap Tryd.prog
  clear m7 M7 M8
  go_wp2_with fail
  generalize hbm : w7.heap.size = bm at *
  generalize hw8 : w7.alloc (.map #[] 0) = w8 at *
  clear hbm hw8 hmm
  go_loopw [55] (fun v55 wr => ∃ k N : Nat, k ≤ (g.fixedL mn).length ∧ v55 = .int .i64 k ∧ Hid (Mem w wr [mapR Tryd.prog 3 en en bm N (markM ((g.fixedL mn).take k) []), rowR 3 1 (.slice ay (g.genericL mn).length cy) (g.genericL mn).length ((g.genericL mn).map rk), rowR 3 1 (.slice ax (g.fixedL mn).length cx) (g.fixedL mn).length ((g.fixedL mn).map rk), cellsR b5 24 #[.slice aF ds.length cF, .int .i64 f.root], nodesR (.slice aF ds.length cF) ds, kidsR ds, cellsR w.heap.size 24 #[.slice (some ⟨b1, o1, none⟩) g.ns.length ca, .int .i64 g.root]]))
    (fun v55 _ => (g.fixedL mn).length - (intOf v55).toNat)
  case atStart => exact ⟨0, 0, Nat.zero_le _, rfl, by show Mem _ _ _; rw [List.take_zero, markM_nil]; exact HM8.out⟩
  case round =>
  obtain ⟨k, N, hk, rfl, hI⟩ := hrel
  by_cases hlt : k < (g.fixedL mn).length
  · have hx2 := fixed_lt (List.getElem_mem hlt)
    obtain ⟨ga, rfl, _, _, hc0⟩ := hI.out.getRow 2 rfl k (u := rk (g.fixedL mn)[k]) (by rw [List.getElem?_map, List.getElem?_eq_getElem hlt]; rfl)
    obtain ⟨f1, f2⟩ := markM_fixed (fixed_nodup g mn) hlt
    generalize (g.fixedL mn)[k] = x at *
    have hc1 : wr.cell? ⟨ga, k, none⟩ = some (.int .i64 (x : Int)) := hc0
    have HF1 := Tre.hid f1
    have HF2 := Tre.hid f2
    clear hc0 f1 f2
    go_wp2_with (first
      | (refine wpList_look1_none rfl _ _ 33 rfl 3 KI injN Tryd.underlying33 (zi _) rfl (hI.out.map 0 rfl) x rfl (kn x (by omega)) HF1.out ?_)
      | (refine wpList_store rfl _ _ _ 33 (.inl rfl) 3 KI injN Tryd.underlying33 rfl (hI.out.map 0 rfl) x rfl (kn x (by omega)) 1 rfl ?_; intro w9 hm9 hg9; have HM9 := Tre.hid (hI.out.put 0 rfl hg9 hm9); clear hm9 hg9))
    go_roundw
    case rel =>
      have h := HM9.out
      rw [HF2.out] at h
      exact ⟨k + 1, _, by omega, by go_num, h⟩
    case measure => simp [intOf]; omega
  have e : k = (g.fixedL mn).length := by omega
  have hI' := hI.out
  rw [e, List.take_length] at hI'
  have HM9 := Tre.hid hI'
  clear hI hI' e
  go_wp2_with fail
  obtain ⟨wo, rfl⟩ : ∃ wo : World, wo = wr := ⟨_, rfl⟩
  go_loopw [66] (fun v66 wr => ∃ k N : Nat, k ≤ (g.genericL mn).length ∧ v66 = .int .i64 k ∧ Hid (Mem w wr [mapR Tryd.prog 3 en en bm N (markM (g.fixedL mn) ((g.genericL mn).take k)), rowR 3 1 (.slice ay (g.genericL mn).length cy) (g.genericL mn).length ((g.genericL mn).map rk), rowR 3 1 (.slice ax (g.fixedL mn).length cx) (g.fixedL mn).length ((g.fixedL mn).map rk), cellsR b5 24 #[.slice aF ds.length cF, .int .i64 f.root], nodesR (.slice aF ds.length cF) ds, kidsR ds, cellsR w.heap.size 24 #[.slice (some ⟨b1, o1, none⟩) g.ns.length ca, .int .i64 g.root]]))
    (fun v66 _ => (g.genericL mn).length - (intOf v66).toNat)
  case atStart => exact ⟨0, N, Nat.zero_le _, rfl, by show Mem _ _ _; rw [List.take_zero]; exact HM9.out⟩
  case round =>
  obtain ⟨k2, N2, hk2, rfl, hI⟩ := hrel
  by_cases hlt2 : k2 < (g.genericL mn).length
  · have hx2 := generic_lt (List.getElem_mem hlt2)
    obtain ⟨ga, rfl, _, _, hc0⟩ := hI.out.getRow 1 rfl k2 (u := rk (g.genericL mn)[k2]) (by rw [List.getElem?_map, List.getElem?_eq_getElem hlt2]; rfl)
    obtain ⟨f1, f2⟩ := markM_generic (generic_nodup g mn) HAP.out hlt2
    generalize (g.genericL mn)[k2] = x at *
    have hc1 : wr.cell? ⟨ga, k2, none⟩ = some (.int .i64 (x : Int)) := hc0
    have HF1 := Tre.hid f1
    have HF2 := Tre.hid f2
    clear hc0 f1 f2
    go_wp2_with (first
      | (refine wpList_look1_none rfl _ _ 33 rfl 3 KI injN Tryd.underlying33 (zi _) rfl (hI.out.map 0 rfl) x rfl (kn x (by omega)) HF1.out ?_)
      | (refine wpList_store rfl _ _ _ 33 (.inl rfl) 3 KI injN Tryd.underlying33 rfl (hI.out.map 0 rfl) x rfl (kn x (by omega)) 2 rfl ?_; intro w9 hm9 hg9; have HM10 := Tre.hid (hI.out.put 0 rfl hg9 hm9); clear hm9 hg9))
    go_roundw
    case rel =>
      have h := HM10.out
      rw [HF2.out] at h
      exact ⟨k2 + 1, _, by omega, by go_num, h⟩
    case measure => simp [intOf]; omega
  have e : k2 = (g.genericL mn).length := by omega
  have hI' := hI.out
  rw [e, List.take_length] at hI'
  have HM10 := Tre.hid hI'
  obtain ⟨g0, g1⟩ := hI'.two 6 rfl
  clear hI hI' e
  go_wp2_with fail
  refine (freeF_any (some ⟨b1, o1, none⟩) ca g wr (HG.out.below HM10.out.below) (by omega) (HM.out.below HM10.out.below)).mono ?_
  rintro e w11 ⟨v76, rfl, m11⟩
  have M11 := HM10.out.call m11
  obtain ⟨a76, c76, rfl, _⟩ := M11.val 0 rfl
  have HM11 := Tre.hid M11
  clear m11 M11
  go_wp2_with fail
  go_loopw [78] (fun v78 wr => ∃ k : Nat, k ≤ g.freeL.length ∧ v78 = .int .i64 k ∧ wr = w11) (fun v78 _ => g.freeL.length - (intOf v78).toNat)
  case atStart => exact ⟨0, Nat.zero_le _, rfl, rfl⟩
  case round =>
  obtain ⟨k3, hk3, rfl, rfl⟩ := hrel
  by_cases hlt3 : k3 < g.freeL.length
  · have hmem := HGL.out _ (List.getElem_mem hlt3)
    have hap := HAP.out g.freeL[k3]
    obtain ⟨ga, rfl, _, _, hc0⟩ := HM11.out.getRow 0 rfl k3 (u := rk g.freeL[k3]) (by rw [List.getElem?_map, List.getElem?_eq_getElem hlt3]; rfl)
    generalize g.freeL[k3] = x at *
    have hc1 := id hc0
    unfold rk at hc1
    clear hc0
    by_cases hxf : x ∈ g.fixedL mn
    · have hxl := fixed_lt hxf
      have HF1 : Hid (markM (g.fixedL mn) (g.genericL mn) x = some 1) := by show _ = _; simp [markM, hxf]
      have hrun : (Instr.lookup 33 (.map (some bm)) (.int .i64 (x : Int)) false).run Tryd.prog wr = .ok (.int .i64 1) wr := by
        have h := (HM11.out.map 1 rfl).run_look KI injN Tryd.underlying33 (zi _) (kn x (by omega))
        rw [HF1.out] at h; exact h
      clear hmem hap hxf
      go_wp2_with fail
      go_roundw
      case rel => exact ⟨k3 + 1, by omega, by go_num, by first | rfl | trivial⟩
      case measure => simp [intOf]; omega
    · have hxg : x ∈ g.genericL mn := hmem.resolve_left hxf
      have hxl := generic_lt hxg
      have HF1 : Hid (markM (g.fixedL mn) (g.genericL mn) x = some 2) := by show _ = _; simp [markM, hxf, hxg]
      have hrun : (Instr.lookup 33 (.map (some bm)) (.int .i64 (x : Int)) false).run Tryd.prog wr = .ok (.int .i64 2) wr := by
        have h := (HM11.out.map 1 rfl).run_look KI injN Tryd.underlying33 (zi _) (kn x (by omega))
        rw [HF1.out] at h; exact h
      clear hmem hap hxf hxg
      go_wp2_with fail
      go_roundw
      case rel => exact ⟨k3 + 1, by omega, by go_num, by first | rfl | trivial⟩
      case measure => simp [intOf]; omega
  have NF := nodes_read (HM11.out.at_ 5 rfl) (HM11.out.at_ 6 rfl)
  rw [HDS.out] at NF
  have CFF := freeF_any aF cF f _ NF (by omega) (HM.out.below HM11.out.below)
  rw [HLN.out] at CFF
  have HCFF := Tre.hid CFF
  obtain ⟨q0, q1⟩ := HM11.out.two 4 rfl
  clear NF CFF
  go_wp2_with fail
  refine HCFF.out.mono ?_
  rintro e w12 ⟨v94, rfl, m12⟩
  have M12 := HM11.out.call m12
  obtain ⟨a94, c94, rfl, _⟩ := M12.val 0 rfl
  obtain ⟨g0, g1⟩ := M12.two 8 rfl
  have HM12 := Tre.hid M12
  clear m12 M12 q0 q1
  go_wp2_with fail
  go_loopw [96] (fun v96 wr => ∃ k : Nat, k ≤ f.freeL.length ∧ v96 = .int .i64 k ∧ wr = w12) (fun v96 _ => f.freeL.length - (intOf v96).toNat)
  case atStart => exact ⟨0, Nat.zero_le _, rfl, rfl⟩
  case round =>
  obtain ⟨k4, hk4, rfl, rfl⟩ := hrel
  by_cases hlt4 : k4 < f.freeL.length
  · have hmem := HFO.out _ (List.getElem_mem hlt4)
    obtain ⟨ga, rfl, _, _, hc0⟩ := HM12.out.getRow 0 rfl k4 (u := rk f.freeL[k4]) (by rw [List.getElem?_map, List.getElem?_eq_getElem hlt4]; rfl)
    generalize f.freeL[k4] = x at *
    have hc1 := id hc0
    unfold rk at hc1
    clear hc0
    by_cases hxn : x < g.ns.length
    · have hxf := hmem hxn
      have HF1 : Hid (markM (g.fixedL mn) (g.genericL mn) x = some 1) := by show _ = _; simp [markM, hxf]
      have hd : decide (x < g.ns.length) = true := by simp [hxn]
      have hrun : (Instr.lookup 33 (.map (some bm)) (.int .i64 (x : Int)) false).run Tryd.prog wr = .ok (.int .i64 1) wr := by
        have h := (HM12.out.map 2 rfl).run_look KI injN Tryd.underlying33 (zi _) (kn x (by omega))
        rw [HF1.out] at h; exact h
      clear hmem hxf
      go_wp2_with fail
      go_roundw
      case rel => exact ⟨k4 + 1, by omega, by go_num, by first | rfl | trivial⟩
      case measure => simp [intOf]; omega
    · have hd : decide (x < g.ns.length) = false := by simp [hxn]
      clear hmem
      go_wp2_with fail
      go_roundw
      case rel => exact ⟨k4 + 1, by omega, by go_num, by first | rfl | trivial⟩
      case measure => simp [intOf]; omega
  have NF := nodes_read (HM12.out.at_ 6 rfl) (HM12.out.at_ 7 rfl)
  rw [HDS.out] at NF
  have HNF := Tre.hid NF
  have CF2 := fresh_ok aF cF f am cm mn _ NF CFK.out (by omega) (HL.out.below HM12.out.below) HLM2.out (by omega) (HM.out.below HM12.out.below) (by omega)
  rw [HLN.out] at CF2
  have HCF2 := Tre.hid CF2
  obtain ⟨q0, q1⟩ := HM12.out.two 5 rfl
  clear NF CF2
  go_wp2_with fail
  refine HCF2.out.mono ?_
  rintro e w13 ⟨vA, da, rfl, hda, m13⟩
  have M13 := HM12.out.call m13
  obtain ⟨aA, cA, rfl, _⟩ := M13.val 0 rfl
  have HLA : Hid ((f.freshG mn).ns.length = da.length) := by show _ = _; rw [← hda, List.length_map]
  have HDA := Tre.hid hda
  have M14 := M13.allocR #[.slice aA da.length cA, .int .i64 (f.freshG mn).root] 24
  have HN14 := Tre.hid (HNF.out.below (m13.below.trans (((Below.refl w13.heap.size w13).alloc (Nat.le_refl _) (.cells #[.slice aA da.length cA, .int .i64 (f.freshG mn).root] 24)).mono m13.below.size)))
  generalize hb14 : w13.heap.size = b14 at *
  generalize hw14 : w13.alloc (.cells #[.slice aA da.length cA, .int .i64 (f.freshG mn).root] 24) = w14 at *
  generalize hA : f.freshG mn = A at *
  obtain ⟨g0, g1⟩ := M14.two 11 rfl
  obtain ⟨q0, q1⟩ := M14.two 8 rfl
  obtain ⟨p0, p1⟩ := M14.two 0 rfl
  have NA := nodes_read (M14.at_ 1 rfl) (M14.at_ 2 rfl)
  rw [HDA.out] at NA
  have CS1 := same_any aA aF cA cF A f w14 NA HN14.out (by omega) (by omega) (HM.out.below M14.below)
  rw [HLA.out, HLN.out, sameB_true HSM2.out] at CS1
  have HCS1 := Tre.hid CS1
  have HM14 := Tre.hid M14
  clear m13 M13 M14 hda NA CS1
  go_wp2_with fail
  clear hb14 hw14 hA
  refine HCS1.out.mono ?_
  rintro e w15 ⟨rfl, b15⟩
  have M15 := HM14.out.quiet b15
  obtain ⟨g0, g1⟩ := M15.two 11 rfl
  obtain ⟨q0, q1⟩ := M15.two 8 rfl
  have HN15 := Tre.hid (HN14.out.below b15)
  have CS2 := same_any aF (some ⟨b1, o1, none⟩) cF ca f g w15 HN15.out (HG.out.below M15.below) (by omega) (by omega) (HM.out.below M15.below)
  rw [HLN.out, sameB_true HSM.out] at CS2
  have HCS2 := Tre.hid CS2
  have HM15 := Tre.hid M15
  clear b15 M15 CS2 p0 p1
  go_wp2_with fail
  refine HCS2.out.mono ?_
  rintro e w16 ⟨rfl, b16⟩
  have M16 := HM15.out.quiet b16
  obtain ⟨g0, g1⟩ := M16.two 11 rfl
  obtain ⟨q0, q1⟩ := M16.two 8 rfl
  have CI := is_yes b1 o1 ca aF cF g f _ w16 (HG.out.below M16.below) (HN15.out.below b16) (by omega) (by omega) (HM.out.below M16.below) (HT.out.below M16.below) C0.out CFK.out HHM.out HLFT.out
  rw [HLN.out] at CI
  have HCI := Tre.hid CI
  have HM16 := Tre.hid M16
  clear b16 M16 CI
  go_wp2_with fail
  refine HCI.out.mono ?_
  rintro e w17 ⟨rfl, b17⟩
  have HM17 := Tre.hid (HM16.out.quiet b17)
  clear b17
  go_wp2_with fail
  go_ret
  exact ⟨rfl, HM17.out.below⟩
theorem monosLaw (a : Option Addr) (ca : Nat) (g : Tre.Graph) (am : Option Addr) (cm : Nat) (mono : List Int) (w : World) (hg : NodesAt w a g.ns) (wg : g.weight ≤ 1048576) (hl : IntsAt w am mono) (hm : MaxAt w) (ht : TabAt w) :
    Calls Tryd.prog 3 #[.agg #[.slice a g.ns.length ca, .int .i64 g.root], .slice am mono.length cm] w fun e w' => e = .returned (.bool true) ∧ Below w.heap.size w w' := by
  by_cases hc : g.monoC mono = 0
  · obtain ⟨c0, e, hlt⟩ := mono_of hc
    have og := Graph.ok_of c0
    obtain ⟨b1, o1, ea, _⟩ := hg.at_ 0 (g.ns[0]'(by have := og.root1; omega)) (List.getElem?_eq_getElem _)
    subst ea
    rw [e] at hl ⊢
    rw [List.length_map]
    exact monosLaw_ok b1 o1 ca g am cm _ w hg wg hl hm ht c0 hlt
  · exact monosLaw_no ca a g am cm mono w hg wg hl hm hc
end Go.Proofs.YtlkfhbmjemjohaaDoor.gr
